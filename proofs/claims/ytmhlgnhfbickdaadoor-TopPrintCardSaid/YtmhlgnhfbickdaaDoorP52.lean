/-
  Middle of the reference; many. Conditions: the prints lie in memory.
-/
import Derived.Test.YtmhlgnhfbickdaaDoorP51
namespace Go.Proofs.YtmhlgnhfbickdaaDoor
set_option linter.unusedVariables false
set_option linter.unusedSimpArgs false
open Go.RowKit Go.Shelf

theorem midC_ar {n : Nat} {ss : Nat → ByteArray} {p c : Int} (h : arB n ss = true) : midC n ss p c = if vcB p c then 0 else 91 := by
  unfold midC disC
  rw [h, emp_val]
  rfl
set_option maxRecDepth 100000 in
set_option maxHeartbeats 4000000 in
/-- skimmerref09.Middle -/
theorem rMiddle_any (A : Option Addr) (n cap : Nat) (ss : Nat → ByteArray) (p c : Int) (w : World) (hss : StrsAt w A n ss) :
    Calls Tryd.prog 56 #[.slice A n cap, .agg #[.int .i64 p, .int .i64 c]] w (NearR w (midC n ss p c) (dsL n (mdF n ss p c))) := by
  have hb0 := hid (box_bel w (.cells #[.int .i64 p, .int .i64 c] 24))
  have HB := hid (Blk.new w 24 #[.int .i64 p, .int .i64 c])
  have HL := hid hss
  obtain ⟨j0, hj0, hy0, hy1, hy2⟩ := info_parts info3
  clear hss
  go_enter Tryd.func56, Tryd.ntmps56
  go_wp2_with fail
  refine (arePrints_any A n cap ss _ (HL.out.below hb0.out)).mono ?_
  rintro e w' ⟨rfl, rfl⟩
  cases har : arB n ss
  · have HE : Hid (midC n ss p c = 90) := hid (disC_bad (by rw [har]; rfl))
    clear har
    go_wp2
    refine bodyPost_ret (v := .tuple #[.int .i64 0, .int .i64 0, .int .i64 90]) (by simp [results, Tryd.results56, go_sem]) rfl ⟨by unfold nearI nearM; rw [HE.out]; rfl, hb0.out⟩
  · have hn := (arB_true har).1
    have HAR1 := hid har
    have K1 := hb0
    have B1 := HB
    clear har hb0 HB
    generalize w.alloc (.cells #[.int .i64 p, .int .i64 c] 24) = w1 at K1 B1 ⊢
    obtain ⟨hn9, b, off, hlt, hA, hc⟩ := HL.out
    obtain rfl := hA (by omega)
    have HCC := hid (And.intro (hlt (by omega)) hc)
    clear hlt hc
    go_wp2
    go_loopw [4, 5, 6, 7, 20] (fun z4 z5 z6 v x wr => ∃ k : Nat, z4 = .int .i64 0 ∧ z5 = .int .i64 0 ∧ z6 = .int .i64 0 ∧ k ≤ n ∧ x = .int .i64 (k : Int) ∧ Hid (wr.ownsRow w.heap.size 3 1 v k ((dsL k (mdF n ss p c)).map (Value.int .i64))) ∧ Hid (Below w.heap.size w wr) ∧ Hid (Blk wr w.heap.size 24 #[.int .i64 p, .int .i64 c]) ∧ Hid (0 < k → midC n ss p c = 0)) (fun _ _ _ _ x _ => n - (intOf x).toNat)
    case atStart => exact ⟨0, rfl, rfl, rfl, by omega, rfl, hid (World.ownsRow_nil _ _ _ _), K1, B1, hid (by omega)⟩
    case round =>
      obtain ⟨k, rfl, rfl, rfl, hk, rfl, HO, HW, HBk, HMZ⟩ := hrel
      obtain ⟨wk, rfl⟩ : ∃ wk : World, wk = wr := ⟨_, rfl⟩
      obtain ⟨A2, cap2, rfl⟩ := own_shape HO.out
      by_cases hkn : k < n
      · have hck := (HW.out.cell (p := ⟨b, off + k, none⟩) HCC.out.1).trans (HCC.out.2 k hkn).1
        have c0 := HBk.out.cell 0
        have c1 := HBk.out.cell 1
        simp only [List.getElem?_toArray, List.getElem?_cons_zero, List.getElem?_cons_succ] at c0 c1
        have HDK := hid fun wx h => compared_any (some ⟨b, off, none⟩) n cap ss (ss k) p c wx h (HCC.out.2 k hkn).2
        rw [disC_each HAR1.out hkn] at HDK
        by_cases hz : midC n ss p c = 0
        · have hvc := (midC_zero hz).2
          have HZ := hid hz
          rw [hz] at HDK
          clear hz
          have hmd := mdF_eq (n := n) (k := k) (ss := ss) (p := p) (c := c)
          have hrg : ∀ j, j < n → 0 ≤ bF (dsL n (dsF ss (ss k) p c)) j ∧ bF (dsL n (dsF ss (ss k) p c)) j ≤ 360 := fun j hj => by
            rw [bF_dsL _ hj]
            exact dsF_range HAR1.out ((arB_true HAR1.out).2 k hkn) hvc hj
          obtain ⟨l, hl⟩ : ∃ l, dsL n (dsF ss (ss k) p c) = l := ⟨_, rfl⟩
          have HLN : Hid (l.length = n) := hid (by rw [← hl, dsL_len])
          rw [hl] at HDK hmd hrg
          have HMD := hid (And.intro hmd hrg)
          clear hmd hrg hl hvc
          go_wp2_with fail
          refine (HDK.out _ (HL.out.below HW.out)).mono ?_
          rintro e w8 ⟨A3, m3, cap3, rfl, hv, hb⟩
          rw [if_pos rfl] at hv
          obtain ⟨A', cap', he, hn9', b3, off3, hlt3, hA3, hc3⟩ := hv
          simp only [Value.slice.injEq] at he
          obtain ⟨rfl, rfl, rfl⟩ := he
          have hln := HLN.out
          obtain rfl := hA3 (by omega)
          have HC3 : Hid (∀ i, i < n → w8.cell? ⟨b3, off3 + i, none⟩ = some (.int .i64 (bF l i))) := hid fun i hi => hc3 i (by omega)
          rw [hln]
          have HO8 := hid (own_bel HO.out hb)
          have HW8 := hid (btr HW.out hb HW.out.size)
          have HB8 := hid (HBk.out.below' hb)
          clear hb HO HW HBk c0 c1 hck HDK hln hc3 hlt3 hA3 hn9'
          go_wp2
          go_loop [12, 36] (fun x y => ∃ j : Nat, j ≤ n ∧ y = .int .i64 (j : Int) ∧ x = .int .i64 (sumN (bF l) j)) (fun _ y => n - (intOf y).toNat)
          case atStart => exact ⟨0, by omega, rfl, rfl⟩
          case round =>
            obtain ⟨j, hj, rfl, rfl⟩ := hrel
            by_cases hjn : j < n
            · have cj := HC3.out j hjn
              have h1 := HMD.out.2 j hjn
              have h2 := sumN_range (f := bF l) (b := 360) j (fun i hi => HMD.out.2 i (by omega))
              obtain ⟨x, hx⟩ : ∃ x, bF l j = x := ⟨_, rfl⟩
              obtain ⟨y, hy⟩ : ∃ y, sumN (bF l) j = y := ⟨_, rfl⟩
              have hsn : sumN (bF l) (j + 1) = y + x := by unfold sumN; rw [hx, hy]
              rw [hx] at cj h1
              rw [hy] at h2
              rw [hy]
              have HSN := hid hsn
              have hy8 : y ≤ 2880 := by omega
              clear hsn hx hy
              go_wp2
              go_round
              case rel => exact ⟨j + 1, by omega, by go_num, by rw [HSN.out]⟩
              case measure => simp [intOf]; omega
            · obtain rfl : j = n := by omega
              have HMM := hid HMD.out.1
              obtain ⟨y, hy⟩ : ∃ y, sumN (bF l) j = y := ⟨_, rfl⟩
              rw [hy] at HMM ⊢
              clear hy
              go_wp2_with (at_builtin; refine wpList_append_own _ rfl _ _ 25 rfl w.heap.size 3 j0 (.int .i64 0) 1 8 Tryd.underlying25 hj0 hy0 hy1 hy2 rfl (by decide) _ _ _ rfl (HO8.out.alloc _) ⟨w8.heap.size, 0, none⟩ 1 1 [.int .i64 y] rfl rfl (cell_one_new _ _ _) (by simp [Value.oneCell']) (by unfold maxLen; omega) (by omega) (by have := HW8.out.size; simp; omega) ?_; intro v' w9 hown' hgrow _)
              have hb9 := own_below (HO8.out.alloc _) hgrow (HW8.out.alloc HW8.out.size _) (Nat.le_refl _) (by have := HW8.out.size; simp; omega)
              have hbb9 := own_type (HO8.out.alloc _) hgrow (HB8.out.alloc _) (by decide)
              have HE : Hid (w9.ownsRow w.heap.size 3 1 v' (k + 1) ((dsL (k + 1) (mdF j ss p c)).map (Value.int .i64)) ∧ Below w.heap.size w w9 ∧ Blk w9 w.heap.size 24 #[.int .i64 p, .int .i64 c]) := hid (by
                refine ⟨?_, hb9, hbb9⟩
                rw [dsL_succ, List.map_append, HMM.out]
                exact hown')
              clear hown' hgrow hb9 hbb9 HO8 HW8 HB8
              go_wp2
              go_roundw
              case rel => exact ⟨k + 1, rfl, rfl, rfl, by omega, by go_num, hid HE.out.1, hid HE.out.2.1, hid HE.out.2.2, hid fun _ => HZ.out⟩
              case measure => simp [intOf]; omega
        · have HZ := hid hz
          have hne : (midC n ss p c != 0) = true := by simpa using hz
          clear hz
          go_wp2_with fail
          refine (HDK.out _ (HL.out.below HW.out)).mono ?_
          rintro e w8 ⟨A3, m3, cap3, rfl, hv, hb⟩
          have HW8 := hid (btr HW.out hb HW.out.size)
          clear hv hb HO HW HBk c0 c1 hck HDK
          go_wp2
          refine bodyPost_ret (v := .tuple #[.int .i64 0, .int .i64 0, .int .i64 (midC n ss p c)]) (by simp [results, Tryd.results56, go_sem]) rfl ⟨by unfold nearI nearM; rw [if_neg HZ.out, if_neg HZ.out], HW8.out⟩
      · obtain rfl : k = n := by omega
        have HZ := hid (HMZ.out (by omega))
        have hv := IntsV.own HO.out (dsL_len _ _).symm (by rw [dsL_len]; omega)
        obtain ⟨l, hl⟩ : ∃ l, dsL k (mdF k ss p c) = l := ⟨_, rfl⟩
        have HLE := hid hl
        have hln : l.length = k := by rw [← hl, dsL_len]
        rw [hl] at hv
        clear hl HMZ
        have hl0 : 0 < l.length := by omega
        rw [← hln] at hv
        have HF := hid fun x : Later wk.heap.size wk => Calls.later_of (v := .int .i64 (bI l : Int)) (x := x) (Nat.le_refl _) ((first_any l A2 cap2 x.up hl0 (hv.below x.bel)).mono fun e w' h => ⟨h.1, by obtain rfl := h.2; exact Below.refl _ _⟩)
        obtain ⟨A', cap', he, hn9, b, off, hlt, hA, hc⟩ := hv
        simp only [Value.slice.injEq, true_and] at he
        obtain ⟨rfl, rfl⟩ := he
        obtain rfl := hA hl0
        have hbi := (bestI_spec (bF l) l.length hl0).1
        have hcb : wk.cell? ⟨b, off + bI l, none⟩ = some (.int .i64 (l.getD (bI l) 0)) := hc (bI l) hbi
        have g0 := Later.cells (B := wk.heap.size) (w := wk) hcb (hlt hl0)
        have hbn : (bI l : Int) < (k : Int) := by have h := hbi; unfold bI; omega
        obtain ⟨bv, hbv⟩ : ∃ bv, l.getD (bI l) 0 = bv := ⟨_, rfl⟩
        have HBB : Hid (bV l = bv) := hid hbv
        rw [hbv] at g0
        obtain ⟨bi, hbi2⟩ : ∃ bi, bI l = bi := ⟨_, rfl⟩
        rw [hbi2] at g0 hbn HF
        have HBI := hid hbi2
        rw [hln] at HF
        clear hc hcb hbv hbi2 hlt hA hbi hl0 hln hn9
        go_wp2
        refine wp_region_later wk.heap.size (by kernel_rfl) (by kernel_rfl) ?_
        repeat (go_big_quiet_step ((go_at_call 82; exact HF.out _)))
        refine wpQuiet_nil ?_
        rintro _ ⟨⟨w3, hb3⟩, rfl⟩
        have K3 := hid (btr HW.out hb3 HW.out.size)
        clear hb3 g0
        go_wp2
        refine bodyPost_ret (v := .tuple #[.int .i64 (bi : Int), .int .i64 bv, .int .i64 0]) (by simp [results, Tryd.results56, go_sem]) rfl ⟨by unfold nearI nearM; rw [HZ.out, if_pos rfl, if_pos rfl, HLE.out, HBB.out, HBI.out], K3.out⟩
/-- too many, or too long -/
def manB (n : Nat) (ss : Nat → ByteArray) : Bool := anyB n (fun i => decide (200 < ((ss i).size : Int))) || decide (40 < (n : Int))
set_option maxHeartbeats 1000000 in
/-- skimmerlaw09.many -/
theorem many_any (A : Option Addr) (n cap : Nat) (ss : Nat → ByteArray) (w : World) (hss : StrsAt w A n ss) :
    Calls Tryd.prog 54 #[.slice A n cap] w fun e w' => e = .returned (.bool (manB n ss)) ∧ w = w' := by
  obtain ⟨hn, b, off, hlt, hA, hc⟩ := hss
  have HC := hid hc
  clear hc
  go_enter Tryd.func54, Tryd.ntmps54
  go_wp2
  go_loop [2, 7] (fun z i => ∃ k : Nat, z = .bool false ∧ k ≤ n ∧ i = .int .i64 (k : Int) ∧ Hid (∀ j, j < k → decide (200 < ((ss j).size : Int)) = false)) (fun _ i => n - (intOf i).toNat)
  case atStart => exact ⟨0, rfl, by omega, rfl, hid (by omega)⟩
  case round =>
    obtain ⟨k, rfl, hk, rfl, HN⟩ := hrel
    by_cases hkn : k < n
    · obtain rfl := hA (by omega)
      obtain ⟨hck, hsz⟩ := HC.out k hkn
      clear hsz
      cases hv : decide (200 < ((ss k).size : Int))
      · have HV := hid hv
        clear hv
        go_wp2_with fail
        refine (long_any _ _).mono ?_
        rintro e w' ⟨rfl, rfl⟩
        rw [HV.out]
        go_wp2
        go_round
        case rel => exact ⟨k + 1, rfl, by omega, by go_num, hid (fun j hj => by (by_cases e : j = k; (subst e; exact HV.out); exact HN.out j (by omega)))⟩
        case measure => simp [intOf]; omega
      · have HV := hid hv
        have HF : Hid (manB n ss = true) := hid (by unfold manB; rw [anyB_true.2 ⟨k, hkn, hv⟩]; rfl)
        clear hv
        go_wp2_with fail
        refine (long_any _ _).mono ?_
        rintro e w' ⟨rfl, rfl⟩
        rw [HV.out]
        go_wp2
        go_ret
        exact ⟨ret_bool HF.out.symm, rfl⟩
    · obtain rfl : k = n := by omega
      have hF : manB k ss = decide (40 < (k : Int)) := by unfold manB; rw [anyB_false.2 HN.out]; rfl
      by_cases h40 : (40 : Int) < (k : Int)
      · have HF : Hid (manB k ss = true) := hid (by rw [hF, decide_eq_true h40])
        clear hF
        go_wp2
        go_ret
        exact ⟨ret_bool HF.out.symm, rfl⟩
      · have HF : Hid (manB k ss = false) := hid (by rw [hF, decide_eq_false h40])
        have h40d : decide ((40 : Int) < (k : Int)) = false := decide_eq_false h40
        clear hF h40
        go_wp2
        go_ret
        exact ⟨ret_bool HF.out.symm, rfl⟩
end Go.Proofs.YtmhlgnhfbickdaaDoor
