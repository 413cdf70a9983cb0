/-
  Middle: both; many. Conditions: the prints lie in memory.
-/
import Derived.Test.YtmhlgnhfbickdaaDoorP50
namespace Go.Proofs.YtmhlgnhfbickdaaDoor
set_option linter.unusedVariables false
set_option linter.unusedSimpArgs false
open Go.RowKit Go.Shelf

def emp : ByteArray := ⟨#[]⟩
theorem emp_val : valB emp = true := by rw [valB_true]; exact ⟨Nat.zero_le _, by intro b hb; cases hb⟩
/-- the sum of distances of all prints from one of them -/
def mdF (n : Nat) (ss : Nat → ByteArray) (p c : Int) (i : Nat) : Int := sumN (dsF ss (ss i) p c) n
def midC (n : Nat) (ss : Nat → ByteArray) (p c : Int) : Int := disC n ss emp p c true
theorem midC_zero {n : Nat} {ss : Nat → ByteArray} {p c : Int} (h : midC n ss p c = 0) : arB n ss = true ∧ vcB p c = true := by
  have := disC_zero h
  exact ⟨this.1, this.2.2.1⟩
theorem disC_each {n k : Nat} {ss : Nat → ByteArray} {p c : Int} (h : arB n ss = true) (hk : k < n) : disC n ss (ss k) p c true = midC n ss p c := by
  unfold midC disC
  rw [h, emp_val, (arB_true h).2 k hk]
theorem dsF_range {n j : Nat} {ss : Nat → ByteArray} {s : ByteArray} {p c : Int} (h : arB n ss = true) (hs : valB s = true) (hc : vcB p c = true) (hj : j < n) : 0 ≤ dsF ss s p c j ∧ dsF ss s p c j ≤ 360 := by
  have hr := vcB_true.1 hc
  have h1 := dst_360' (c := c.toNat) ((arB_true h).2 j hj) hs (p := p.toNat) (by omega)
  unfold dsF
  omega
theorem mdF_eq {n k : Nat} {ss : Nat → ByteArray} {p c : Int} : mdF n ss p c k = sumN (bF (dsL n (dsF ss (ss k) p c))) n := sumN_congr n fun j hj => (bF_dsL _ hj).symm
set_option maxRecDepth 100000 in
set_option maxHeartbeats 4000000 in
/-- Middle -/
theorem middle_any (A : Option Addr) (n cap : Nat) (ss : Nat → ByteArray) (p c : Int) (w : World) (hss : StrsAt w A n ss) :
    Calls Tryd.prog 26 #[.slice A n cap, .agg #[.int .i64 p, .int .i64 c]] w (NearR w (midC n ss p c) (dsL n (mdF n ss p c))) := by
  have hb0 := hid (box_bel w (.cells #[.int .i64 p, .int .i64 c] 24))
  have HB := hid (Blk.new w 24 #[.int .i64 p, .int .i64 c])
  have HL := hid hss
  obtain ⟨j0, hj0, hy0, hy1, hy2⟩ := info_parts info3
  clear hss
  have c0 := HB.out.cell 0
  have c1 := HB.out.cell 1
  simp only [List.getElem?_toArray, List.getElem?_cons_zero, List.getElem?_cons_succ] at c0 c1
  have HD0 := hid fun wx h => distances_any A n cap ss emp p c true wx h (by show (0 : Nat) ≤ _; omega)
  go_enter Tryd.func26, Tryd.ntmps26
  go_wp2_with fail
  refine (HD0.out _ (HL.out.below hb0.out)).mono ?_
  rintro e w1 ⟨A1, m, cap1, rfl, hv, hb⟩
  have K1 := hid (btr hb0.out hb hb0.out.size)
  have B1 := hid (HB.out.below' hb)
  clear hb hb0 HB c0 c1 HD0 hv
  change _ at *
  by_cases hz : disC n ss emp p c true = 0
  · have HZ : Hid (midC n ss p c = 0) := hid hz
    obtain ⟨har, hvc⟩ := midC_zero HZ.out
    have hn := (arB_true har).1
    have HAR := hid (And.intro har hvc)
    rw [hz]
    clear hz har hvc
    obtain ⟨hn9, b, off, hlt, hA, hc⟩ := HL.out
    obtain rfl := hA (by omega)
    have HCC := hid (And.intro (hlt (by omega)) hc)
    clear hlt hc
    go_wp2
    go_loopw [9, 30] (fun v x wr => ∃ k : Nat, k ≤ n ∧ x = .int .i64 (k : Int) ∧ Hid (wr.ownsRow w.heap.size 3 1 v k ((dsL k (mdF n ss p c)).map (Value.int .i64))) ∧ Hid (Below w.heap.size w wr) ∧ Hid (Blk wr w.heap.size 24 #[.int .i64 p, .int .i64 c])) (fun _ x _ => n - (intOf x).toNat)
    case atStart => exact ⟨0, by omega, rfl, hid (World.ownsRow_nil _ _ _ _), K1, B1⟩
    case round =>
      obtain ⟨k, hk, rfl, HO, HW, HBk⟩ := hrel
      obtain ⟨wk, rfl⟩ : ∃ wk : World, wk = wr := ⟨_, rfl⟩
      obtain ⟨A2, cap2, rfl⟩ := own_shape HO.out
      by_cases hkn : k < n
      · have hck := (HW.out.cell (p := ⟨b, off + k, none⟩) HCC.out.1).trans (HCC.out.2 k hkn).1
        have c0 := HBk.out.cell 0
        have c1 := HBk.out.cell 1
        simp only [List.getElem?_toArray, List.getElem?_cons_zero, List.getElem?_cons_succ] at c0 c1
        have HDK := hid fun wx h => distances_any (some ⟨b, off, none⟩) n cap ss (ss k) p c true wx h (HCC.out.2 k hkn).2
        rw [disC_each HAR.out.1 hkn, HZ.out] at HDK
        have hmd := mdF_eq (n := n) (k := k) (ss := ss) (p := p) (c := c)
        have hrg : ∀ j, j < n → 0 ≤ bF (dsL n (dsF ss (ss k) p c)) j ∧ bF (dsL n (dsF ss (ss k) p c)) j ≤ 360 := fun j hj => by
          rw [bF_dsL _ hj]
          exact dsF_range HAR.out.1 ((arB_true HAR.out.1).2 k hkn) HAR.out.2 hj
        obtain ⟨l, hl⟩ : ∃ l, dsL n (dsF ss (ss k) p c) = l := ⟨_, rfl⟩
        have HLN : Hid (l.length = n) := hid (by rw [← hl, dsL_len])
        rw [hl] at HDK hmd hrg
        have HMD := hid (And.intro hmd hrg)
        clear hmd hrg hl
        go_wp2_with fail
        refine (HDK.out _ (HL.out.below HW.out)).mono ?_
        rintro e w8 ⟨A3, m3, cap3, rfl, hv, hb⟩
        rw [if_pos rfl] at hv
        obtain ⟨A', cap', he, hn9', b3, off3, hlt3, hA3, hc3⟩ := hv
        simp only [Value.slice.injEq] at he
        obtain ⟨rfl, rfl, rfl⟩ := he
        have hln := HLN.out
        obtain rfl := hA3 (by omega)
        have HC3 : Hid (∀ i, i < n → w8.cell? ⟨b3, off3 + i, none⟩ = some (.int .i64 (bF l i))) := hid fun i hi => hc3 i (by omega)
        rw [hln]
        have HO8 := hid (own_bel HO.out hb)
        have HW8 := hid (btr HW.out hb HW.out.size)
        have HB8 := hid (HBk.out.below' hb)
        clear hb HO HW HBk c0 c1 hck HDK hln hc3 hlt3 hA3 hn9'
        go_wp2
        go_loop [14, 43] (fun x y => ∃ j : Nat, j ≤ n ∧ y = .int .i64 (j : Int) ∧ x = .int .i64 (sumN (bF l) j)) (fun _ y => n - (intOf y).toNat)
        case atStart => exact ⟨0, by omega, rfl, rfl⟩
        case round =>
          obtain ⟨j, hj, rfl, rfl⟩ := hrel
          by_cases hjn : j < n
          · have cj := HC3.out j hjn
            have h1 := HMD.out.2 j hjn
            have h2 := sumN_range (f := bF l) (b := 360) j (fun i hi => HMD.out.2 i (by omega))
            obtain ⟨x, hx⟩ : ∃ x, bF l j = x := ⟨_, rfl⟩
            obtain ⟨y, hy⟩ : ∃ y, sumN (bF l) j = y := ⟨_, rfl⟩
            have hsn : sumN (bF l) (j + 1) = y + x := by unfold sumN; rw [hx, hy]
            rw [hx] at cj h1
            rw [hy] at h2
            rw [hy]
            have HSN := hid hsn
            have hy8 : y ≤ 2880 := by omega
            clear hsn hx hy
            go_wp2
            go_round
            case rel => exact ⟨j + 1, by omega, by go_num, by rw [HSN.out]⟩
            case measure => simp [intOf]; omega
          · obtain rfl : j = n := by omega
            have HMM := hid HMD.out.1
            obtain ⟨y, hy⟩ : ∃ y, sumN (bF l) j = y := ⟨_, rfl⟩
            rw [hy] at HMM ⊢
            clear hy
            go_wp2_with (at_builtin; refine wpList_append_own _ rfl _ _ 25 rfl w.heap.size 3 j0 (.int .i64 0) 1 8 Tryd.underlying25 hj0 hy0 hy1 hy2 rfl (by decide) _ _ _ rfl (HO8.out.alloc _) ⟨w8.heap.size, 0, none⟩ 1 1 [.int .i64 y] rfl rfl (cell_one_new _ _ _) (by simp [Value.oneCell']) (by unfold maxLen; omega) (by omega) (by have := HW8.out.size; simp; omega) ?_; intro v' w9 hown' hgrow _)
            have hb9 := own_below (HO8.out.alloc _) hgrow (HW8.out.alloc HW8.out.size _) (Nat.le_refl _) (by have := HW8.out.size; simp; omega)
            have hbb9 := own_type (HO8.out.alloc _) hgrow (HB8.out.alloc _) (by decide)
            have HE : Hid (w9.ownsRow w.heap.size 3 1 v' (k + 1) ((dsL (k + 1) (mdF j ss p c)).map (Value.int .i64)) ∧ Below w.heap.size w w9 ∧ Blk w9 w.heap.size 24 #[.int .i64 p, .int .i64 c]) := hid (by
              refine ⟨?_, hb9, hbb9⟩
              rw [dsL_succ, List.map_append, HMM.out]
              exact hown')
            clear hown' hgrow hb9 hbb9 HO8 HW8 HB8
            go_wp2
            go_roundw
            case rel => exact ⟨k + 1, by omega, by go_num, hid HE.out.1, hid HE.out.2.1, hid HE.out.2.2⟩
            case measure => simp [intOf]; omega
      · obtain rfl : k = n := by omega
        have HV := hid (IntsV.own HO.out (dsL_len _ _).symm (by rw [dsL_len]; omega))
        have hl0 : 0 < (dsL k (mdF k ss p c)).length := by rw [dsL_len]; omega
        have HLL := hid fun wx (h : IntsV wx (.slice A2 (dsL k (mdF k ss p c)).length cap2) (dsL k (mdF k ss p c))) => least_any (dsL k (mdF k ss p c)) A2 cap2 wx hl0 h
        have hdl := dsL_len k (mdF k ss p c)
        rw [hdl] at HLL
        clear hl0 hdl
        go_wp2_with fail
        refine (HLL.out _ HV.out).mono ?_
        rintro e w2 ⟨rfl, rfl⟩
        go_wp2
        refine bodyPost_ret (v := .tuple #[.int .i64 (bI (dsL k (mdF k ss p c)) : Int), .int .i64 (bV (dsL k (mdF k ss p c))), .int .i64 0]) (by simp [results, Tryd.results26, go_sem]) rfl ⟨by unfold nearI nearM; rw [HZ.out, if_pos rfl, if_pos rfl], HW.out⟩
  · have HZ : Hid (midC n ss p c ≠ 0) := hid hz
    have HE : Hid (disC n ss emp p c true = midC n ss p c) := hid rfl
    have hne : (disC n ss emp p c true != 0) = true := by simpa using hz
    clear hz
    go_wp2
    refine bodyPost_ret (v := .tuple #[.int .i64 0, .int .i64 0, .int .i64 (disC n ss emp p c true)]) (by simp [results, Tryd.results26, go_sem]) rfl ⟨by unfold nearI nearM; rw [if_neg HZ.out, if_neg HZ.out, HE.out], K1.out⟩
end Go.Proofs.YtmhlgnhfbickdaaDoor
