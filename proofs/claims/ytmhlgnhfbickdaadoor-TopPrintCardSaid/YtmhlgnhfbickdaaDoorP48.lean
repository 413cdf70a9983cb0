/-
  The distances of the reference; the least number of a list: both. Conditions: the prints and the list lie in memory.
-/
import Derived.Test.YtmhlgnhfbickdaaDoorP47
namespace Go.Proofs.YtmhlgnhfbickdaaDoor
set_option linter.unusedVariables false
set_option linter.unusedSimpArgs false
open Go.RowKit Go.Shelf

set_option maxHeartbeats 1000000 in
/-- skimmerref09.ArePrints -/
theorem arePrints_any (A : Option Addr) (n cap : Nat) (ss : Nat → ByteArray) (w : World) (hss : StrsAt w A n ss) :
    Calls Tryd.prog 59 #[.slice A n cap] w fun e w' => e = .returned (.bool (arB n ss)) ∧ w = w' := by
  obtain ⟨hn, b, off, hlt, hA, hc⟩ := hss
  have HC := hid hc
  clear hc
  by_cases h0 : n < 1
  · have HF : Hid (arB n ss = false) := hid (by unfold arB; rw [btw_false (.inl (by omega))]; rfl)
    have h1 : (n : Int) < 1 := by omega
    clear h0
    go_enter Tryd.func59, Tryd.ntmps59
    go_wp2
    go_ret
    exact ⟨ret_bool HF.out.symm, rfl⟩
  · have g1 : decide ((n : Int) < 1) = false := by simp; omega
    by_cases h8 : 8 < n
    · have HF : Hid (arB n ss = false) := hid (by unfold arB; rw [btw_false (.inr (by omega))]; rfl)
      have g2 : (8 : Int) < (n : Int) := by omega
      clear h0 h8
      go_enter Tryd.func59, Tryd.ntmps59
      go_wp2
      go_ret
      exact ⟨ret_bool HF.out.symm, rfl⟩
    · have g2 : decide ((8 : Int) < (n : Int)) = false := by simp; omega
      have HBT := hid (btw_true (a := 1) (n := (n : Int)) (b := 8) (by omega) (by omega))
      clear h0 h8
      go_enter Tryd.func59, Tryd.ntmps59
      go_wp2
      clear g1 g2
      go_loop [2, 15] (fun z i => ∃ k : Nat, z = .bool false ∧ k ≤ n ∧ i = .int .i64 (k : Int) ∧ Hid (∀ j, j < k → nvB (ss j) = false)) (fun _ i => n - (intOf i).toNat)
      case atStart => exact ⟨0, rfl, by omega, rfl, hid (by omega)⟩
      case round =>
        obtain ⟨k, rfl, hk, rfl, HN⟩ := hrel
        by_cases hkn : k < n
        · obtain rfl := hA (by omega)
          obtain ⟨hck, hsz⟩ := HC.out k hkn
          have HS := hid hsz
          clear hsz
          cases hv : valB (ss k)
          · have HV := hid hv
            have HF : Hid (arB n ss = false) := hid (by unfold arB; rw [anyB_true.2 ⟨k, hkn, by unfold nvB; rw [hv]; rfl⟩]; simp)
            clear hv
            go_wp2_with fail
            refine (rValid_any _ _ HS.out).mono ?_
            rintro e w' ⟨rfl, rfl⟩
            rw [HV.out]
            go_wp2
            go_ret
            exact ⟨ret_bool HF.out.symm, rfl⟩
          · have HV := hid hv
            clear hv
            go_wp2_with fail
            refine (rValid_any _ _ HS.out).mono ?_
            rintro e w' ⟨rfl, rfl⟩
            rw [HV.out]
            go_wp2
            go_round
            case rel => exact ⟨k + 1, rfl, by omega, by go_num, hid (fun j hj => by (by_cases e : j = k; (subst e; unfold nvB; rw [HV.out]; rfl); exact HN.out j (by omega)))⟩
            case measure => simp [intOf]; omega
        · obtain rfl : k = n := by omega
          have HF : Hid (arB k ss = true) := hid (by unfold arB; rw [HBT.out, anyB_false.2 HN.out]; rfl)
          go_wp2
          go_ret
          exact ⟨ret_bool HF.out.symm, rfl⟩
set_option maxRecDepth 100000 in
set_option maxHeartbeats 4000000 in
/-- skimmerref09.compared -/
theorem compared_any (A : Option Addr) (n cap : Nat) (ss : Nat → ByteArray) (s : ByteArray) (p c : Int) (w : World) (hss : StrsAt w A n ss) (hs : s.size ≤ 9223372036854775807) :
    Calls Tryd.prog 81 #[.slice A n cap, .string s, .agg #[.int .i64 p, .int .i64 c]] w (DisR w (disC n ss s p c true) (dsL n (dsF ss s p c))) := by
  have hb0 := hid (box_bel w (.cells #[.int .i64 p, .int .i64 c] 24))
  have HB := hid (Blk.new w 24 #[.int .i64 p, .int .i64 c])
  have HL := hid hss
  obtain ⟨hn9, _⟩ := hss
  obtain ⟨j0, hj0, hy0, hy1, hy2⟩ := info_parts info3
  have HS := hid hs
  clear hs
  go_enter Tryd.func81, Tryd.ntmps81
  go_wp2_with fail
  refine (arePrints_any A n cap ss _ (HL.out.below hb0.out)).mono ?_
  rintro e w' ⟨rfl, rfl⟩
  cases har : arB n ss
  · have HD := hid (disC_bad (n := n) (ss := ss) (s := s) (p := p) (c := c) (right := true) (by rw [har]; rfl))
    clear har
    go_wp2
    refine bodyPost_ret (v := .tuple #[.slice none 0 0, .int .i64 90]) (by simp [results, Tryd.results81, go_sem]) rfl ⟨none, 0, 0, by rw [HD.out], ?_, hb0.out⟩
    rw [HD.out]
    exact IntsV.nil _
  · have HAR := hid har
    clear har
    go_wp2_with fail
    refine (rValid_any s _ HS.out).mono ?_
    rintro e w' ⟨rfl, rfl⟩
    cases hv : valB s
    · have HD := hid (disC_bad (n := n) (ss := ss) (s := s) (p := p) (c := c) (right := true) (by rw [hv, Bool.and_false]))
      clear hv
      go_wp2
      refine bodyPost_ret (v := .tuple #[.slice none 0 0, .int .i64 90]) (by simp [results, Tryd.results81, go_sem]) rfl ⟨none, 0, 0, by rw [HD.out], ?_, hb0.out⟩
      rw [HD.out]
      exact IntsV.nil _
    · have hok : (arB n ss && valB s) = true := by rw [HAR.out, hv]; rfl
      have HOK := hid hok
      have HV := hid hv
      clear hv hok
      have c0 := HB.out.cell 0
      have c1 := HB.out.cell 1
      simp only [List.getElem?_toArray, List.getElem?_cons_zero, List.getElem?_cons_succ] at c0 c1
      go_wp2_with fail
      refine (rVCosts_any _ _ _).mono ?_
      rintro e w7 ⟨rfl, hb⟩
      have K7 := hid (btr hb0.out hb hb0.out.size)
      have B7 := hid (HB.out.below' hb)
      clear hb c0 c1 HB hb0
      cases hvc : vcB p c
      · have HD := hid (disC_costs (right := true) HOK.out hvc)
        clear hvc
        go_wp2
        refine bodyPost_ret (v := .tuple #[.slice none 0 0, .int .i64 91]) (by simp [results, Tryd.results81, go_sem]) rfl ⟨none, 0, 0, by rw [HD.out], ?_, K7.out⟩
        rw [HD.out]
        exact IntsV.nil _
      · have HVC := hid hvc
        have hr := vcB_true.1 hvc
        clear hvc
        have HD := hid (disC_ok HOK.out HVC.out)
        obtain ⟨p, rfl⟩ : ∃ p' : Nat, p = (p' : Int) := ⟨p.toNat, by omega⟩
        obtain ⟨c, rfl⟩ : ∃ c' : Nat, c = (c' : Int) := ⟨c.toNat, by omega⟩
        obtain ⟨hn18, hvs⟩ := arB_true HAR.out
        obtain ⟨hn9', b, off, hlt, hA, hc⟩ := HL.out
        obtain rfl := hA (by omega)
        have HCC := hid (And.intro (hlt (by omega)) hc)
        have HVS := hid hvs
        have hs20 := (valB_true.1 HV.out).1
        clear hvs hlt hc
        go_wp2
        go_loopw [8, 26] (fun v x wr => ∃ k : Nat, k ≤ n ∧ x = .int .i64 (k : Int) ∧ Hid (wr.ownsRow w.heap.size 3 1 v k ((dsL k (dsF ss s (p : Int) (c : Int))).map (Value.int .i64))) ∧ Hid (Below w.heap.size w wr) ∧ Hid (Blk wr w.heap.size 24 #[.int .i64 (p : Int), .int .i64 (c : Int)])) (fun _ x _ => n - (intOf x).toNat)
        case atStart => exact ⟨0, by omega, rfl, hid (World.ownsRow_nil _ _ _ _), K7, B7⟩
        case round =>
          obtain ⟨k, hk, rfl, HO, HW, HBk⟩ := hrel
          obtain ⟨wk, rfl⟩ : ∃ wk : World, wk = wr := ⟨_, rfl⟩
          obtain ⟨A2, cap2, rfl⟩ := own_shape HO.out
          by_cases hkn : k < n
          · have hck := (HW.out.cell (p := ⟨b, off + k, none⟩) HCC.out.1).trans (HCC.out.2 k hkn).1
            have c0 := HBk.out.cell 0
            have c1 := HBk.out.cell 1
            simp only [List.getElem?_toArray, List.getElem?_cons_zero, List.getElem?_cons_succ] at c0 c1
            have hk20 := (valB_true.1 (HVS.out k hkn)).1
            have HDK := hid fun wx => left0_any (ss k) s p c wx hk20 hs20 (by omega) (by omega)
            have h360 := dst_360' (c := c) (HVS.out k hkn) HV.out (p := p) (by omega)
            have hdf : dsF ss s (p : Int) (c : Int) k = (dst p c (ss k).data.toList s.data.toList : Nat) := by unfold dsF; rw [Int.toNat_natCast, Int.toNat_natCast]
            obtain ⟨d, hd⟩ : ∃ d, dst p c (ss k).data.toList s.data.toList = d := ⟨_, rfl⟩
            rw [hd] at HDK hdf h360
            have HDF := hid hdf
            clear hd hdf
            go_wp2_with fail
            refine (HDK.out _).mono ?_
            rintro e w8 ⟨B, Y, ns, nt, g0, rfl, x1, x2, hb⟩
            have i1 : (0 : Int) < (ns : Int) + 1 := by omega
            have i2 : (0 : Int) < (nt : Int) + 1 := by omega
            have HO8 := hid (own_bel HO.out hb)
            have HW8 := hid (btr HW.out hb HW.out.size)
            have HB8 := hid (HBk.out.below' hb)
            clear hb HO HW HBk c0 c1 hck HDK
            go_wp2_with (at_builtin; refine wpList_append_own _ rfl _ _ 25 rfl w.heap.size 3 j0 (.int .i64 0) 1 8 Tryd.underlying25 hj0 hy0 hy1 hy2 rfl (by decide) _ _ _ rfl (HO8.out.alloc _) ⟨w8.heap.size, 0, none⟩ 1 1 [.int .i64 (d : Int)] rfl rfl (cell_one_new _ _ _) (by simp [Value.oneCell']) (by unfold maxLen; omega) (by omega) (by have := HW8.out.size; simp; omega) ?_; intro v' w9 hown' hgrow _)
            have hb9 := own_below (HO8.out.alloc _) hgrow (HW8.out.alloc HW8.out.size _) (Nat.le_refl _) (by have := HW8.out.size; simp; omega)
            have hbb9 := own_type (HO8.out.alloc _) hgrow (HB8.out.alloc _) (by decide)
            have HE : Hid (w9.ownsRow w.heap.size 3 1 v' (k + 1) ((dsL (k + 1) (dsF ss s (p : Int) (c : Int))).map (Value.int .i64)) ∧ Below w.heap.size w w9 ∧ Blk w9 w.heap.size 24 #[.int .i64 (p : Int), .int .i64 (c : Int)]) := hid (by
              refine ⟨?_, hb9, hbb9⟩
              rw [dsL_succ, List.map_append, HDF.out]
              exact hown')
            clear hown' hgrow hb9 hbb9 HO8 HW8 HB8 x1 x2
            go_wp2
            go_roundw
            case rel => exact ⟨k + 1, by omega, by go_num, hid HE.out.1, hid HE.out.2.1, hid HE.out.2.2⟩
            case measure => simp [intOf]; omega
          · obtain rfl : k = n := by omega
            go_wp2
            refine bodyPost_ret (v := .tuple #[.slice A2 k cap2, .int .i64 0]) (by simp [results, Tryd.results81, go_sem]) rfl ⟨A2, k, cap2, by rw [HD.out], ?_, HW.out⟩
            rw [HD.out, if_pos rfl]
            exact IntsV.own HO.out (dsL_len _ _).symm (by rw [dsL_len]; omega)
/-! ### the least number -/
def bF (l : List Int) (i : Nat) : Int := l.getD i 0
def bI (l : List Int) : Nat := bestI (bF l) l.length
def bV (l : List Int) : Int := bF l (bI l)
theorem bI_dsL (n : Nat) (f : Nat → Int) : bI (dsL n f) = bestI f n := by
  unfold bI
  rw [dsL_len]
  exact bestI_congr n fun j hj => by unfold bF dsL; simp [hj]
theorem bV_dsL {n : Nat} (hn : 0 < n) (f : Nat → Int) : bV (dsL n f) = f (bestI f n) := by
  unfold bV
  rw [bI_dsL]
  have h := (bestI_spec f n hn).1
  unfold bF dsL
  simp [h]
set_option maxHeartbeats 1000000 in
/-- least -/
theorem least_any (l : List Int) (A : Option Addr) (cap : Nat) (w : World) (h0 : 0 < l.length) (hv : IntsV w (.slice A l.length cap) l) :
    Calls Tryd.prog 66 #[.slice A l.length cap] w fun e w' => e = .returned (.tuple #[.int .i64 (bI l : Int), .int .i64 (bV l)]) ∧ w' = w := by
  obtain ⟨A', cap', he, hn9, b, off, hlt, hA, hc⟩ := hv
  simp only [Value.slice.injEq, true_and] at he
  obtain ⟨rfl, rfl⟩ := he
  obtain rfl := hA h0
  have hmin := Tryd.slices_Min_int b off l.length cap l w h0 (Nat.le_refl _) hn9 hc
  have hidx := fun x => Tryd.slices_Index_int b off l.length cap l x w (Nat.le_refl _) hn9 hc
  rw [minOf_best l l.length h0 (Nat.le_refl _)] at hmin
  have hidx2 := hidx (l.getD (bestI (fun i => l.getD i 0) l.length) 0)
  rw [idxOf_best l h0 (Nat.le_refl _)] at hidx2
  obtain ⟨bi, hbi⟩ : ∃ bi, bestI (fun i => l.getD i 0) l.length = bi := ⟨_, rfl⟩
  obtain ⟨bv, hbv⟩ : ∃ bv, l.getD bi 0 = bv := ⟨_, rfl⟩
  rw [hbi, hbv] at hmin hidx2
  have HI : Hid (bI l = bi) := hid hbi
  have HV : Hid (bV l = bv) := hid (by unfold bV; rw [HI.out]; exact hbv)
  have H1 := hid hmin
  have H2 := hid hidx2
  clear hmin hidx hidx2 hc hlt hA hbi hbv
  go_enter Tryd.func66, Tryd.ntmps66
  go_wp2_with fail
  refine H1.out.mono ?_
  rintro e w' ⟨rfl, rfl⟩
  go_wp2_with fail
  refine H2.out.mono ?_
  rintro e w' ⟨rfl, rfl⟩
  go_wp2
  refine bodyPost_ret (v := .tuple #[.int .i64 (bi : Int), .int .i64 bv]) (by simp [results, Tryd.results66, go_sem]) rfl ⟨by rw [HI.out, HV.out], rfl⟩
set_option maxHeartbeats 1000000 in
/-- skimmerref09.first -/
theorem first_any (l : List Int) (A : Option Addr) (cap : Nat) (w : World) (h0 : 0 < l.length) (hv : IntsV w (.slice A l.length cap) l) :
    Calls Tryd.prog 82 #[.slice A l.length cap] w fun e w' => e = .returned (.int .i64 (bI l : Int)) ∧ w' = w := by
  obtain ⟨A', cap', he, hn9, b, off, hlt, hA, hc⟩ := hv
  simp only [Value.slice.injEq, true_and] at he
  obtain ⟨rfl, rfl⟩ := he
  obtain rfl := hA h0
  obtain ⟨n, hn⟩ : ∃ n, l.length = n := ⟨_, rfl⟩
  have HBI : Hid (bI l = bestI (bF l) n) := hid (by unfold bI; rw [hn])
  have hc' : ∀ i, i < n → w.cell? ⟨b, off + i, none⟩ = some (.int .i64 (bF l i)) := fun i hi => hc i (by omega)
  rw [hn] at h0 hn9 ⊢
  have HC := hid hc'
  clear hc hlt hA hc' hn
  go_enter Tryd.func82, Tryd.ntmps82
  go_wp2
  go_loop [3, 8] (fun x i => ∃ (k bk : Nat), k ≤ n ∧ i = .int .i64 (k : Int) ∧ x = .int .i64 (bk : Int) ∧ bk < n ∧ Hid (bestI (bF l) k = bk)) (fun _ i => n - (intOf i).toNat)
  case atStart => exact ⟨0, 0, by omega, rfl, rfl, h0, hid rfl⟩
  case round =>
    obtain ⟨k, bk, hk, rfl, rfl, hbk, HK⟩ := hrel
    by_cases hkn : k < n
    · have ck := HC.out k hkn
      have cb := HC.out bk hbk
      obtain ⟨x, hx⟩ : ∃ x, bF l k = x := ⟨_, rfl⟩
      obtain ⟨y, hy⟩ : ∃ y, bF l bk = y := ⟨_, rfl⟩
      rw [hx] at ck
      rw [hy] at cb
      have hs := bestI_succ (bF l) k
      rw [HK.out, hx, hy] at hs
      have hbn : (bk : Int) < (n : Int) := by omega
      by_cases hlt : x < y
      · have HS := hid (hs.trans (if_pos hlt))
        clear hs hx hy
        go_wp2
        go_round
        case rel => exact ⟨k + 1, k, by omega, by go_num, rfl, hkn, HS⟩
        case measure => simp [intOf]; omega
      · have HS := hid (hs.trans (if_neg hlt))
        have hld : decide (x < y) = false := decide_eq_false hlt
        clear hs hx hy hlt
        go_wp2
        go_round
        case rel => exact ⟨k + 1, bk, by omega, by go_num, rfl, hbk, HS⟩
        case measure => simp [intOf]; omega
    · obtain rfl : k = n := by omega
      have HF : Hid ((bI l : Int) = (bk : Int)) := hid (by rw [HBI.out, HK.out])
      go_wp2
      go_ret
      exact ⟨ret_int HF.out.symm, rfl⟩
end Go.Proofs.YtmhlgnhfbickdaaDoor
