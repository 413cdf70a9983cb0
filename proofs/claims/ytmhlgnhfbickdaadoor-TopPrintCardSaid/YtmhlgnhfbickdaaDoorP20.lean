/-
  The edits back: the program and the reference. Conditions: the list lies in memory.
-/
import Derived.Test.YtmhlgnhfbickdaaDoorP19
namespace Go.Proofs.YtmhlgnhfbickdaaDoor
set_option linter.unusedVariables false
set_option linter.unusedSimpArgs false
open Go.RowKit Go.Shelf

def bkL (n : Nat) (f : Nat → Int) : List Int := (List.range n).map fun j => bkE (f j)
theorem bkL_succ (n : Nat) (f : Nat → Int) : bkL (n + 1) f = bkL n f ++ [bkE (f n)] := by unfold bkL; rw [List.range_succ, List.map_append]; rfl
theorem bkL_len (n : Nat) (f : Nat → Int) : (bkL n f).length = n := by simp [bkL]
theorem isE_len {s t : ByteArray} {n : Nat} {f : Nat → Int} (h : isE s t n f = true) : n ≤ 100 := by
  unfold isE cstO at h
  split at h
  · cases h
  · omega
def backV (s t : ByteArray) (n : Nat) (f : Nat → Int) : List Int × Int := if codeV s t = 0 then (if isE s t n f then (bkL n f, 0) else ([], 5)) else ([], codeV s t)
theorem backV_bad {s t : ByteArray} {n : Nat} {f : Nat → Int} (h : codeV s t ≠ 0) : backV s t n f = ([], codeV s t) := if_neg h
theorem backV_no {s t : ByteArray} {n : Nat} {f : Nat → Int} (h : codeV s t = 0) (h2 : isE s t n f = false) : backV s t n f = ([], 5) := by unfold backV; rw [if_pos h, h2]; rfl
theorem backV_yes {s t : ByteArray} {n : Nat} {f : Nat → Int} (h : codeV s t = 0) (h2 : isE s t n f = true) : backV s t n f = (bkL n f, 0) := by unfold backV; rw [if_pos h, h2]; rfl
def BackR (w : World) (s t : ByteArray) (n : Nat) (f : Nat → Int) (e : Ending) (w' : World) : Prop :=
  ∃ A m cap, e = .returned (.tuple #[.slice A m cap, .int .i64 (backV s t n f).2]) ∧ IntsV w' (.slice A m cap) (backV s t n f).1 ∧ Below w.heap.size w w'

set_option maxRecDepth 100000 in
set_option maxHeartbeats 4000000 in
/-- print.Back -/
theorem back_any (s t : ByteArray) (A : Option Addr) (n cap : Nat) (f : Nat → Int) (w : World) (hs : s.size ≤ 9223372036854775807) (ht : t.size ≤ 9223372036854775807) (hl : HoursAt w A n f) :
    Calls Tryd.prog 49 #[.string s, .string t, .slice A n cap] w (BackR w s t n f) := by
  have HL := hid hl
  obtain ⟨i0, hi0, hz0, hz1, hz2⟩ := info_parts info3
  clear hl
  go_enter Tryd.func49, Tryd.ntmps49
  go_wp2_with fail
  refine (plain_any _).mono ?_
  rintro e w0 ⟨rfl, hb0⟩
  have HB0 := hid hb0
  clear hb0
  go_wp2_with fail
  refine (newPair_any s t 1 1 _ hs ht).mono ?_
  rintro e w1 ⟨x, y, u, v, rfl, h0, hb1⟩
  rw [codeV_P] at h0 ⊢
  have HB1 := hid (btr HB0.out hb1 HB0.out.size)
  clear hb1 HB0
  by_cases hz : codeV s t = 0
  · obtain ⟨rfl, rfl, rfl, rfl⟩ := h0 hz
    have h20 := codeV_zero hz
    have HZ := hid hz
    rw [hz]
    clear hz h0
    have HB := hid (btr HB1.out (box_bel w1 (.cells #[.string x, .string y, .int .i64 1, .int .i64 1] 72)) HB1.out.size)
    have hcon : ∀ wx, Below w.heap.size w wx → Calls Tryd.prog 64 #[.agg #[.string x, .string y, .int .i64 1, .int .i64 1], .slice A n cap] wx (GoneR wx x y 1 1 n f) := fun wx hbx => cost_any x y 1 1 n cap A f wx h20.1 h20.2 (by omega) (by omega) (HL.out.below hbx)
    have HC := hid hcon
    clear hcon
    go_wp2_with fail
    refine (HC.out _ HB.out).mono ?_
    rintro e w2 ⟨m, rfl, _, hb2⟩
    have HB2 := hid (btr HB.out hb2 HB.out.size)
    have HI : Hid ((cstO x y 1 1 n f).isSome = isE x y n f) := hid rfl
    rw [HI.out]
    clear hb2 HI
    cases hE : isE x y n f
    · have HV := hid (backV_no HZ.out hE)
      clear hE
      go_wp2
      refine bodyPost_ret (v := .tuple #[.slice none 0 0, .int .i64 5]) (by simp [results, Tryd.results49, go_sem]) rfl ⟨none, 0, 0, by rw [HV.out], ?_, HB2.out⟩
      rw [HV.out]
      exact IntsV.nil _
    · have HV := hid (backV_yes HZ.out hE)
      have hn100 := isE_len hE
      obtain ⟨hn, b, off, hlt, hA, hcl⟩ := HL.out
      have HLC := hid (And.intro hlt hcl)
      clear hE hlt hcl hn HB HB1 HC
      go_wp2
      go_loopw [12, 35] (fun v x wr => ∃ j : Nat, j ≤ n ∧ x = .int .i64 (j : Int) ∧ Hid (wr.ownsRow w.heap.size 3 1 v (bkL j f).length ((bkL j f).map (Value.int .i64))) ∧ Hid (Below w.heap.size w wr)) (fun _ x _ => n - (intOf x).toNat)
      case atStart => exact ⟨0, by omega, rfl, hid (World.ownsRow_nil _ _ _ _), HB2⟩
      case round =>
        obtain ⟨j, hj, rfl, HO, HW⟩ := hrel
        obtain ⟨A2, cap2, rfl⟩ := own_shape HO.out
        by_cases hjn : j < n
        · obtain rfl := hA (by omega)
          have hcj := (HW.out.cell (p := ⟨b, off + j, none⟩) (HLC.out.1 (by omega))).trans (HLC.out.2 j hjn)
          have HRE0 := hid hjn
          by_cases he3 : f j = 3
          · rw [he3] at hcj
            have H3 := hid he3
            clear he3
            clear HRE0
            go_wp2_with (at_builtin; refine wpList_append_own _ rfl _ _ 25 rfl w.heap.size 3 i0 (.int .i64 0) 1 8 Tryd.underlying25 hi0 hz0 hz1 hz2 rfl (by decide) _ _ _ rfl (HO.out.alloc _) ⟨wr.heap.size, 0, none⟩ 1 1 [.int .i64 4] rfl rfl (cell_one_new _ _ _) (by simp [Value.oneCell']) (by unfold maxLen; rw [bkL_len]; omega) (by rw [bkL_len]; omega) (by have := HW.out.size; simp; omega) ?_; intro v' w5 hown' hgrow _)
            have hb5 := own_below (HO.out.alloc _) hgrow (HW.out.alloc HW.out.size _) (Nat.le_refl _) (by have := HW.out.size; simp; omega)
            have HE : Hid (w5.ownsRow w.heap.size 3 1 v' (bkL (j + 1) f).length ((bkL (j + 1) f).map (Value.int .i64)) ∧ Below w.heap.size w w5) := hid (by
              refine ⟨?_, hb5⟩
              rw [bkL_succ, List.length_append, List.map_append]
              have hbk : bkE (f j) = 4 := by rw [H3.out]; rfl
              rw [hbk]
              exact hown')
            clear hown' hgrow hb5 HO HW
            go_wp2
            go_roundw
            case rel => exact ⟨j + 1, by omega, by go_num, hid HE.out.1, hid HE.out.2⟩
            case measure => simp [intOf]; omega
          · by_cases he4 : f j = 4
            · rw [he4] at hcj
              have H4 := hid he4
              clear he3 he4
              clear HRE0
              go_wp2_with (at_builtin; refine wpList_append_own _ rfl _ _ 25 rfl w.heap.size 3 i0 (.int .i64 0) 1 8 Tryd.underlying25 hi0 hz0 hz1 hz2 rfl (by decide) _ _ _ rfl (HO.out.alloc _) ⟨wr.heap.size, 0, none⟩ 1 1 [.int .i64 3] rfl rfl (cell_one_new _ _ _) (by simp [Value.oneCell']) (by unfold maxLen; rw [bkL_len]; omega) (by rw [bkL_len]; omega) (by have := HW.out.size; simp; omega) ?_; intro v' w5 hown' hgrow _)
              have hb5 := own_below (HO.out.alloc _) hgrow (HW.out.alloc HW.out.size _) (Nat.le_refl _) (by have := HW.out.size; simp; omega)
              have HE : Hid (w5.ownsRow w.heap.size 3 1 v' (bkL (j + 1) f).length ((bkL (j + 1) f).map (Value.int .i64)) ∧ Below w.heap.size w w5) := hid (by
                refine ⟨?_, hb5⟩
                rw [bkL_succ, List.length_append, List.map_append]
                have hbk : bkE (f j) = 3 := by rw [H4.out]; rfl
                rw [hbk]
                exact hown')
              clear hown' hgrow hb5 HO HW
              go_wp2
              go_roundw
              case rel => exact ⟨j + 1, by omega, by go_num, hid HE.out.1, hid HE.out.2⟩
              case measure => simp [intOf]; omega
            · obtain ⟨e, he⟩ : ∃ e, f j = e := ⟨_, rfl⟩
              rw [he] at hcj he3 he4
              have e3 : (e == 3) = false := by simpa using he3
              have e4 : (e == 4) = false := by simpa using he4
              have HEE := hid (And.intro he (And.intro he3 he4))
              clear he he3 he4
              clear HRE0
              go_wp2_with (at_builtin; refine wpList_append_own _ rfl _ _ 25 rfl w.heap.size 3 i0 (.int .i64 0) 1 8 Tryd.underlying25 hi0 hz0 hz1 hz2 rfl (by decide) _ _ _ rfl (HO.out.alloc _) ⟨wr.heap.size, 0, none⟩ 1 1 [.int .i64 e] rfl rfl (cell_one_new _ _ _) (by simp [Value.oneCell']) (by unfold maxLen; rw [bkL_len]; omega) (by rw [bkL_len]; omega) (by have := HW.out.size; simp; omega) ?_; intro v' w5 hown' hgrow _)
              have hb5 := own_below (HO.out.alloc _) hgrow (HW.out.alloc HW.out.size _) (Nat.le_refl _) (by have := HW.out.size; simp; omega)
              have HE : Hid (w5.ownsRow w.heap.size 3 1 v' (bkL (j + 1) f).length ((bkL (j + 1) f).map (Value.int .i64)) ∧ Below w.heap.size w w5) := hid (by
                refine ⟨?_, hb5⟩
                rw [bkL_succ, List.length_append, List.map_append]
                have hbk : bkE (f j) = e := by rw [HEE.out.1]; unfold bkE; rw [if_neg HEE.out.2.1, if_neg HEE.out.2.2]
                rw [hbk]
                exact hown')
              clear hown' hgrow hb5 HO HW
              go_wp2
              go_roundw
              case rel => exact ⟨j + 1, by omega, by go_num, hid HE.out.1, hid HE.out.2⟩
              case measure => simp [intOf]; omega
        · obtain rfl : j = n := by omega
          clear HLC
          go_wp2
          refine bodyPost_ret (v := .tuple #[.slice A2 (bkL j f).length cap2, .int .i64 0]) (by simp [results, Tryd.results49, go_sem]) rfl ⟨A2, (bkL j f).length, cap2, by rw [HV.out], ?_, HW.out⟩
          rw [HV.out]
          exact IntsV.own HO.out rfl (by rw [bkL_len]; omega)
  · have HV := hid (backV_bad (n := n) (f := f) hz)
    have hne : (codeV s t != 0) = true := by simpa using hz
    have HB := hid (btr HB1.out (box_bel w1 (.cells #[.string x, .string y, .int .i64 u, .int .i64 v] 72)) HB1.out.size)
    clear hz h0
    go_wp2
    refine bodyPost_ret (v := .tuple #[.slice none 0 0, .int .i64 (codeV s t)]) (by simp [results, Tryd.results49, go_sem]) rfl ⟨none, 0, 0, by rw [HV.out], ?_, HB.out⟩
    rw [HV.out]
    exact IntsV.nil _

set_option maxRecDepth 100000 in
set_option maxHeartbeats 4000000 in
/-- skimmerref09.Back -/
theorem rBack_any (s t : ByteArray) (A : Option Addr) (n cap : Nat) (f : Nat → Int) (w : World) (hs : s.size ≤ 9223372036854775807) (ht : t.size ≤ 9223372036854775807) (hl : HoursAt w A n f) :
    Calls Tryd.prog 50 #[.string s, .string t, .slice A n cap] w (BackR w s t n f) := by
  have HL := hid hl
  obtain ⟨i0, hi0, hz0, hz1, hz2⟩ := info_parts info3
  clear hl
  go_enter Tryd.func50, Tryd.ntmps50
  go_wp2_with fail
  refine (rAre_any s t A n cap f _ hs ht HL.out).mono ?_
  rintro e w2 ⟨rfl, hb2⟩
  have HB2 := hid hb2
  clear hb2
  by_cases hz : codeV s t = 0
  · have HZ := hid hz
    rw [decide_eq_true hz, Bool.true_and, hz]
    clear hz
    cases hE : isE s t n f
    · have HV := hid (backV_no HZ.out hE)
      clear hE
      go_wp2
      refine bodyPost_ret (v := .tuple #[.slice none 0 0, .int .i64 5]) (by simp [results, Tryd.results50, go_sem]) rfl ⟨none, 0, 0, by rw [HV.out], ?_, HB2.out⟩
      rw [HV.out]
      exact IntsV.nil _
    · have HV := hid (backV_yes HZ.out hE)
      have hn100 := isE_len hE
      obtain ⟨hn, b, off, hlt, hA, hcl⟩ := HL.out
      have HLC := hid (And.intro hlt hcl)
      clear hE hlt hcl hn
      go_wp2
      go_loopw [10, 27] (fun v x wr => ∃ j : Nat, j ≤ n ∧ x = .int .i64 (j : Int) ∧ Hid (wr.ownsRow w.heap.size 3 1 v (bkL j f).length ((bkL j f).map (Value.int .i64))) ∧ Hid (Below w.heap.size w wr)) (fun _ x _ => n - (intOf x).toNat)
      case atStart => exact ⟨0, by omega, rfl, hid (World.ownsRow_nil _ _ _ _), HB2⟩
      case round =>
        obtain ⟨j, hj, rfl, HO, HW⟩ := hrel
        obtain ⟨A2, cap2, rfl⟩ := own_shape HO.out
        by_cases hjn : j < n
        · obtain rfl := hA (by omega)
          have hcj := (HW.out.cell (p := ⟨b, off + j, none⟩) (HLC.out.1 (by omega))).trans (HLC.out.2 j hjn)
          have HRE0 := hid hjn
          by_cases he3 : f j = 3
          · rw [he3] at hcj
            have H3 := hid he3
            clear he3
            clear HRE0
            go_wp2_with (at_builtin; refine wpList_append_own _ rfl _ _ 25 rfl w.heap.size 3 i0 (.int .i64 0) 1 8 Tryd.underlying25 hi0 hz0 hz1 hz2 rfl (by decide) _ _ _ rfl (HO.out.alloc _) ⟨wr.heap.size, 0, none⟩ 1 1 [.int .i64 4] rfl rfl (cell_one_new _ _ _) (by simp [Value.oneCell']) (by unfold maxLen; rw [bkL_len]; omega) (by rw [bkL_len]; omega) (by have := HW.out.size; simp; omega) ?_; intro v' w5 hown' hgrow _)
            have hb5 := own_below (HO.out.alloc _) hgrow (HW.out.alloc HW.out.size _) (Nat.le_refl _) (by have := HW.out.size; simp; omega)
            have HE : Hid (w5.ownsRow w.heap.size 3 1 v' (bkL (j + 1) f).length ((bkL (j + 1) f).map (Value.int .i64)) ∧ Below w.heap.size w w5) := hid (by
              refine ⟨?_, hb5⟩
              rw [bkL_succ, List.length_append, List.map_append]
              have hbk : bkE (f j) = 4 := by rw [H3.out]; rfl
              rw [hbk]
              exact hown')
            clear hown' hgrow hb5 HO HW
            go_wp2
            go_roundw
            case rel => exact ⟨j + 1, by omega, by go_num, hid HE.out.1, hid HE.out.2⟩
            case measure => simp [intOf]; omega
          · by_cases he4 : f j = 4
            · rw [he4] at hcj
              have H4 := hid he4
              clear he3 he4
              clear HRE0
              go_wp2_with (at_builtin; refine wpList_append_own _ rfl _ _ 25 rfl w.heap.size 3 i0 (.int .i64 0) 1 8 Tryd.underlying25 hi0 hz0 hz1 hz2 rfl (by decide) _ _ _ rfl (HO.out.alloc _) ⟨wr.heap.size, 0, none⟩ 1 1 [.int .i64 3] rfl rfl (cell_one_new _ _ _) (by simp [Value.oneCell']) (by unfold maxLen; rw [bkL_len]; omega) (by rw [bkL_len]; omega) (by have := HW.out.size; simp; omega) ?_; intro v' w5 hown' hgrow _)
              have hb5 := own_below (HO.out.alloc _) hgrow (HW.out.alloc HW.out.size _) (Nat.le_refl _) (by have := HW.out.size; simp; omega)
              have HE : Hid (w5.ownsRow w.heap.size 3 1 v' (bkL (j + 1) f).length ((bkL (j + 1) f).map (Value.int .i64)) ∧ Below w.heap.size w w5) := hid (by
                refine ⟨?_, hb5⟩
                rw [bkL_succ, List.length_append, List.map_append]
                have hbk : bkE (f j) = 3 := by rw [H4.out]; rfl
                rw [hbk]
                exact hown')
              clear hown' hgrow hb5 HO HW
              go_wp2
              go_roundw
              case rel => exact ⟨j + 1, by omega, by go_num, hid HE.out.1, hid HE.out.2⟩
              case measure => simp [intOf]; omega
            · obtain ⟨e, he⟩ : ∃ e, f j = e := ⟨_, rfl⟩
              rw [he] at hcj he3 he4
              have e3 : (e == 3) = false := by simpa using he3
              have e4 : (e == 4) = false := by simpa using he4
              have HEE := hid (And.intro he (And.intro he3 he4))
              clear he he3 he4
              clear HRE0
              go_wp2_with (at_builtin; refine wpList_append_own _ rfl _ _ 25 rfl w.heap.size 3 i0 (.int .i64 0) 1 8 Tryd.underlying25 hi0 hz0 hz1 hz2 rfl (by decide) _ _ _ rfl (HO.out.alloc _) ⟨wr.heap.size, 0, none⟩ 1 1 [.int .i64 e] rfl rfl (cell_one_new _ _ _) (by simp [Value.oneCell']) (by unfold maxLen; rw [bkL_len]; omega) (by rw [bkL_len]; omega) (by have := HW.out.size; simp; omega) ?_; intro v' w5 hown' hgrow _)
              have hb5 := own_below (HO.out.alloc _) hgrow (HW.out.alloc HW.out.size _) (Nat.le_refl _) (by have := HW.out.size; simp; omega)
              have HE : Hid (w5.ownsRow w.heap.size 3 1 v' (bkL (j + 1) f).length ((bkL (j + 1) f).map (Value.int .i64)) ∧ Below w.heap.size w w5) := hid (by
                refine ⟨?_, hb5⟩
                rw [bkL_succ, List.length_append, List.map_append]
                have hbk : bkE (f j) = e := by rw [HEE.out.1]; unfold bkE; rw [if_neg HEE.out.2.1, if_neg HEE.out.2.2]
                rw [hbk]
                exact hown')
              clear hown' hgrow hb5 HO HW
              go_wp2
              go_roundw
              case rel => exact ⟨j + 1, by omega, by go_num, hid HE.out.1, hid HE.out.2⟩
              case measure => simp [intOf]; omega
        · obtain rfl : j = n := by omega
          clear HLC
          go_wp2
          refine bodyPost_ret (v := .tuple #[.slice A2 (bkL j f).length cap2, .int .i64 0]) (by simp [results, Tryd.results50, go_sem]) rfl ⟨A2, (bkL j f).length, cap2, by rw [HV.out], ?_, HW.out⟩
          rw [HV.out]
          exact IntsV.own HO.out rfl (by rw [bkL_len]; omega)
  · have HV := hid (backV_bad (n := n) (f := f) hz)
    rw [decide_eq_false hz, Bool.false_and]
    have hne : (codeV s t != 0) = true := by simpa using hz
    clear hz
    go_wp2
    refine bodyPost_ret (v := .tuple #[.slice none 0 0, .int .i64 (codeV s t)]) (by simp [results, Tryd.results50, go_sem]) rfl ⟨none, 0, 0, by rw [HV.out], ?_, HB2.out⟩
    rw [HV.out]
    exact IntsV.nil _
end Go.Proofs.YtmhlgnhfbickdaaDoor

