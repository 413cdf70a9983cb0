/-
  Far of the reference. Conditions: none but that the prints' lengths are int's.
-/
import Derived.Deep.RegionWith
import Derived.Test.YtmhlgnhfbickdaaDoorP28
namespace Go.Proofs.YtmhlgnhfbickdaaDoor
set_option linter.unusedVariables false
set_option linter.unusedSimpArgs false
open Go.RowKit Go.Shelf

def farL (s t : ByteArray) (p c : Int) : Nat := if codeP s t p c = 0 then s.size + 1 else 0
def FarR (w : World) (s t : ByteArray) (p c : Int) (e : Ending) (w' : World) : Prop :=
  ∃ A cap, e = .returned (.tuple #[.slice A (farL s t p c) cap, .int .i64 (codeP s t p c)]) ∧ TabAt w' A (farL s t p c) (fun _ => t.size + 1) (farN p.toNat c.toNat s.data.toList t.data.toList) ∧ Below w.heap.size w w'
theorem extract_take (s : ByteArray) (i : Nat) : (s.extract 0 i).data.toList = s.data.toList.take i := by rw [Lib.extract_data]; simp
theorem extract_size {s : ByteArray} {i : Nat} (h : i ≤ s.size) : (s.extract 0 i).size = i := by simp; omega
/-- the reference's tables, of which the first number alone is read -/
def Left0R (z : Nat) (w : World) (e : Ending) (w' : World) : Prop :=
  ∃ B Y ns nt g0, e = .returned (.tuple #[.slice (some ⟨B, 0, none⟩) (ns + 1) (ns + 1), .slice (some ⟨Y, 0, none⟩) (ns + 1) (ns + 1)]) ∧ w'.cell? ⟨B, 0, none⟩ = some (.slice (some ⟨g0, 0, none⟩) (nt + 1) (nt + 1)) ∧ w'.cell? ⟨g0, 0, none⟩ = some (.int .i64 (z : Int)) ∧ Below w.heap.size w w'
theorem left0_any (s t : ByteArray) (p c : Nat) (w : World) (hs : s.size ≤ 20) (ht : t.size ≤ 20) (hp : p ≤ 9) (hc : c ≤ 9) :
    Calls Tryd.prog 69 #[.string s, .string t, .agg #[.int .i64 (p : Int), .int .i64 (c : Int)]] w (Left0R (dst p c s.data.toList t.data.toList) w) := by
  refine (left_any s t p c w hs ht hp hc).mono ?_
  rintro e w3 ⟨B, Y, g, h, rfl, HL⟩
  have x1 := (HL.bo.cell 0).trans (rowsA_get (by omega))
  rw [if_pos (Nat.le_refl _)] at x1
  exact ⟨B, Y, s.size, t.size, g 0, rfl, x1, ((HL.br 0 (Nat.le_refl _) (Nat.zero_le _)).cell 0).trans (intsA_get (by omega)), HL.bel⟩
set_option maxRecDepth 100000 in
set_option maxHeartbeats 4000000 in
/-- skimmerref09.Far -/
theorem rFar_any (s t : ByteArray) (p c : Int) (w : World) (hs : s.size ≤ 9223372036854775807) (ht : t.size ≤ 9223372036854775807) :
    Calls Tryd.prog 41 #[.string s, .string t, .agg #[.int .i64 p, .int .i64 c]] w (FarR w s t p c) := by
  have hb0 := box_bel w (.cells #[.int .i64 p, .int .i64 c] 24)
  obtain ⟨i0, hi0, hz0, hz1, hz2⟩ := info_parts info3
  obtain ⟨j0, hj0, hy0, hy1, hy2⟩ := info_parts info25
  go_enter Tryd.func41, Tryd.ntmps41
  go_wp2_with fail
  refine (asked_any s t p c _ hs ht).mono ?_
  rintro e w1 ⟨rfl, hb⟩
  have hb1 := box_trans _ hb
  have hB0 := (Blk.new w 24 #[.int .i64 p, .int .i64 c]).below' hb
  clear hb hb0
  by_cases hz : codeP s t p c = 0
  · have h20 := codeP_zero hz
    have HZ := hid hz
    have HFL : Hid (farL s t p c = s.size + 1) := hid (if_pos hz)
    rw [hz]
    clear hz
    obtain ⟨p, rfl⟩ : ∃ p' : Nat, p = (p' : Int) := ⟨p.toNat, by omega⟩
    obtain ⟨c, rfl⟩ : ∃ c' : Nat, c = (c' : Int) := ⟨c.toNat, by omega⟩
    obtain ⟨h20s, h20t, hpp, hcc⟩ := h20
    have HB := hid hb1
    have HB0 := hid hB0
    clear hb1 hB0
    go_wp2
    go_loopw [9, 25] (fun v x wr => ∃ (i : Nat) (rs : List Value), i ≤ s.size + 1 ∧ x = .int .i64 (i : Int) ∧ Hid (TabO w wr (t.size + 1) i (farN p c s.data.toList t.data.toList) v rs) ∧ Hid (Blk wr w.heap.size 24 #[.int .i64 (p : Int), .int .i64 (c : Int)])) (fun _ x _ => s.size + 1 - (intOf x).toNat)
    case atStart => exact ⟨0, [], by omega, rfl, hid (TabO.nil HB.out), HB0⟩
    case round =>
      obtain ⟨i, rs, hi, rfl, HT, HC⟩ := hrel
      clear HB HB0
      obtain ⟨wo, rfl⟩ : ∃ wo : World, wo = wr := ⟨_, rfl⟩
      obtain ⟨A, cap, rfl⟩ := own_shape HT.out.own
      by_cases hlt : i < s.size + 1
      · have hlti : (i : Int) < (s.size : Int) + 1 := by omega
        go_wp2
        go_loopw [11, 31] (fun r y wj => ∃ k : Nat, k ≤ t.size + 1 ∧ y = .int .i64 (k : Int) ∧ Hid (wj.ownsRow wo.heap.size 3 1 r k (rowL k (farN p c s.data.toList t.data.toList i))) ∧ Hid (Below wo.heap.size wo wj)) (fun _ y _ => t.size + 1 - (intOf y).toNat)
        case atStart => exact ⟨0, by omega, rfl, hid (World.ownsRow_nil _ _ _ _), hid (Below.refl _ _)⟩
        case round =>
          obtain ⟨k, hk, rfl, HO, HW⟩ := hrel
          obtain ⟨wj, rfl⟩ : ∃ wj : World, wj = wr := ⟨_, rfl⟩
          obtain ⟨A2, cap2, rfl⟩ := own_shape HO.out
          by_cases hkt : k < t.size + 1
          · have hltk : (k : Int) < (t.size : Int) + 1 := by omega
            have c0 := (HC.out.below' HW.out).cell 0
            have c1 := (HC.out.below' HW.out).cell 1
            simp only [List.getElem?_toArray, List.getElem?_cons_zero, List.getElem?_cons_succ] at c0 c1
            have hi1 : i ≤ s.size := by omega
            have hk1 : k ≤ t.size := by omega
            go_wp2
            obtain ⟨z, hz⟩ : ∃ z, dst p c (s.data.toList.take i) (t.data.toList.take k) = z := ⟨_, rfl⟩
            have hfar : (z : Int) = farN p c s.data.toList t.data.toList i k := by unfold farN; rw [hz]
            have HLF : Hid (∀ wx, Calls Tryd.prog 69 #[.string (s.extract 0 i), .string (t.extract 0 k), .agg #[.int .i64 (p : Int), .int .i64 (c : Int)]] wx (Left0R z wx)) := hid fun wx => by
              have h := left0_any (s.extract 0 i) (t.extract 0 k) p c wx (by rw [extract_size hi1]; omega) (by rw [extract_size hk1]; omega) (by omega) (by omega)
              rw [extract_take, extract_take, hz] at h
              exact h
            clear hz
            go_region_with (go_at_call 69; refine (HLF.out _).mono ?_; rintro e w3 ⟨B, Y, ns, nt, g0, rfl, x1, x2, hbl⟩)
            have hb3 : Below wj.heap.size wj w3 := (bdr wj 1).trans hbl
            have i1 : (0 : Int) < (ns : Int) + 1 := by omega
            have i2 : (0 : Int) < (nt : Int) + 1 := by omega
            have HFR := hid hfar
            have HW3 := hid (btr HW.out hb3 HW.out.size)
            have HO3 := hid (own_bel HO.out hb3)
            clear hbl hb3 hfar HLF c0 c1
            go_wp2_with (at_builtin; refine wpList_append_own _ rfl _ _ 25 rfl wo.heap.size 3 i0 (.int .i64 0) 1 8 Tryd.underlying25 hi0 hz0 hz1 hz2 rfl (by decide) _ _ _ rfl (HO3.out.alloc _) ⟨w3.heap.size, 0, none⟩ 1 1 [.int .i64 (z : Int)] rfl rfl (cell_one_new _ _ _) (by simp [Value.oneCell']) (by unfold maxLen; omega) (by omega) (by have := HW3.out.size; simp; omega) ?_; intro v' w5 hown' hgrow _)
            have hb5 := own_below (HO3.out.alloc _) hgrow (HW3.out.alloc HW3.out.size _) (Nat.le_refl _) (by have := HW3.out.size; simp; omega)
            have HE : Hid (w5.ownsRow wo.heap.size 3 1 v' (k + 1) (rowL (k + 1) (farN p c s.data.toList t.data.toList i)) ∧ Below wo.heap.size wo w5) := hid (by
              refine ⟨?_, hb5⟩
              rw [rowL_succ, ← HFR.out]
              exact hown')
            clear hown' hgrow hb5 HO HW HO3 HW3 x1 x2
            go_wp2
            go_roundw
            case rel => exact ⟨k + 1, by omega, by go_num, hid HE.out.1, hid HE.out.2⟩
            case measure => simp [intOf]; omega
          · obtain rfl : k = t.size + 1 := by omega
            have HT2 := hid (HT.out.next HW.out)
            have HC2 := hid (HC.out.below' HW.out)
            have HR2 := hid (own_mono HO.out HT.out.bel.size)
            have hlen := HT.out.len
            clear HO HT HC
            have hws := HT2.out.bel.size
            go_wp2_with (at_builtin; refine wpList_append_own _ rfl _ _ 26 rfl w.heap.size 25 j0 (.slice none 0 0) 1 24 Tryd.underlying26 hj0 hy0 hy1 hy2 rfl (by decide) _ _ _ rfl (HT2.out.own.alloc _) ⟨wj.heap.size, 0, none⟩ 1 1 [.slice A2 (t.size + 1) cap2] rfl rfl (cell_one_new _ _ _) (by simp [Value.oneCell']) (by unfold maxLen; omega) (by omega) (by simp; omega) ?_; intro v' w5 hown' hgrow _)
            have HE := hid (And.intro (HT2.out.push HR2.out hown' hgrow) (own_type (HT2.out.own.alloc _) hgrow (HC2.out.alloc _) (by decide)))
            clear hown' hgrow HT2 HC2 HR2
            go_wp2
            go_roundw
            case rel => exact ⟨i + 1, _, by omega, by go_num, hid HE.out.1, hid HE.out.2⟩
            case measure => simp [intOf]; omega
      · obtain rfl : i = s.size + 1 := by omega
        go_wp2
        refine bodyPost_ret (v := .tuple #[.slice A (s.size + 1) cap, .int .i64 0]) (by simp [results, Tryd.results41, go_sem]) rfl ⟨A, cap, by rw [HFL.out, HZ.out], ?_, HT.out.bel⟩
        rw [HFL.out, Int.toNat_natCast, Int.toNat_natCast]
        exact HT.out.at_ (by omega) (by omega)
  · have HZ := hid hz
    have HFL : Hid (farL s t p c = 0) := hid (if_neg hz)
    have hne : (codeP s t p c != 0) = true := by simpa using hz
    have HB := hid hb1
    clear hb1 hz hB0
    go_wp2
    refine bodyPost_ret (v := .tuple #[.slice none 0 0, .int .i64 (codeP s t p c)]) (by simp [results, Tryd.results41, go_sem]) rfl ⟨none, 0, by rw [HFL.out], ?_, HB.out⟩
    rw [HFL.out]
    exact ⟨by omega, 0, 0, by omega, by omega, by omega⟩
end Go.Proofs.YtmhlgnhfbickdaaDoor
