/-
  The reference's plain and Plain: what each returns. Conditions: the hours lie in memory.
-/
import Derived.Test.YtfabpkcgdblnbaaV4
namespace Go.Proofs.Ytfabpkcgdblnbaa
set_option linter.unusedVariables false
set_option linter.unusedSimpArgs false
open Go.RowKit

def sameTo (f : Nat → Bool) (q x : Nat) : Bool := !anyB x (fun h => f h != f (h % q))
theorem sameTo_step (f : Nat → Bool) (q x : Nat) : sameTo f q (x + 1) = (sameTo f q x && (f x == f (x % q))) := by
  unfold sameTo anyB
  rw [List.range_succ, List.any_append, Bool.not_or]
  congr 1
  simp only [List.any_cons, List.any_nil, Bool.or_false]
  cases f x <;> cases f (x % q) <;> rfl
theorem sameTo_all (f : Nat → Bool) (q p : Nat) : sameTo f q p = perB p f q := rfl

set_option maxHeartbeats 2000000 in
theorem rPlain_any (p : Nat) (A : Option Addr) (n c : Nat) (h : Nat → Int) (w : World) (hh : HoursAt w A n h) (hw : winB p n h 3600 = true) :
    Calls Try.prog 78 #[.agg #[.int .i64 (p : Int), .slice A n c]] w (WinR w (plainP p (opn n h)) (opn n h)) := by
  have hv := (winB_true.1 hw).1
  have HW := hid hw
  have HR0 : Hid (Blk ((w.alloc (.cells #[.int .i64 (p : Int), .slice A n c] 40)).alloc (.cells #[.int .i64 0, .slice none 0 0] 40)) (w.heap.size + 1) 40 #[.int .i64 0, .slice none 0 0]) := hid (by
    have := Blk.new (w.alloc (.cells #[.int .i64 (p : Int), .slice A n c] 40)) 40 #[.int .i64 0, .slice none 0 0]
    simpa using this)
  go_enter Try.func78, Try.ntmps78
  go_wp2_with (go_at_call 74; refine (hours_any _ _ _ _ _ 3600 _ ((hh.alloc _).alloc _) (by omega) HW.out).mono ?_; rintro e w2 ⟨g, rfl, hg, hblk, hb2⟩; have hcc := (bcell hb2).1; have hs2 : w.heap.size + 1 < w2.heap.size := (by have := hb2.size; simp at this; omega))
  have HR2 := hid (HR0.out.below' hb2)
  have hw2 := hid (box_trans _ (box_trans _ hb2))
  have hq0 : w2.cell? ⟨w.heap.size, 0, none⟩ = some (.int .i64 (p : Int)) := by
    rw [hcc _ _ (by simp; omega), World.cell?_alloc_lt _ _ ⟨w.heap.size, 0, none⟩ (by simp)]
    exact World.cell?_alloc_new w #[.int .i64 (p : Int), .slice A n c] 40 0
  have HQ0 := hid hq0
  have HBo := hid (BoolsAt.of_blk hblk)
  clear hcc hb2 hblk hq0 hw
  go_loopw [4] (fun i wr => ∃ q : Nat, 1 ≤ q ∧ q ≤ p ∧ i = .int .i64 q ∧ Hid (∀ j, j < q → isPer p (opn n h) j = false) ∧ ∃ m, wr = w2.drewN m) (fun i _ => p - (intOf i).toNat)
  case atStart => exact ⟨1, by omega, by omega, rfl, hid (fun j hj => by (obtain rfl : j = 0 := by omega); exact isPer_zero p _), 0, rfl⟩
  case round =>
    obtain ⟨q, hq1, hq, rfl, HN, m, hwr⟩ := hrel
    have hq0 : wr.cell? ⟨w.heap.size, 0, none⟩ = some (.int .i64 (p : Int)) := by rw [hwr]; exact HQ0.out
    have HWR := hid hwr
    clear hwr
    by_cases hlt : q < p
    · have hne : ((q : Int) == 0) = false := beq_eq_false_iff_ne.2 (by omega)
      by_cases hmod : p % q = 0
      · have hm0 : ((p : Int) % (q : Int) != 0) = false := by
          have : ((p % q : Nat) : Int) = 0 := by rw [hmod]; rfl
          rw [Int.natCast_emod] at this
          simp [this]
        have HMOD := hid hmod
        clear hmod
        go_wp2_with fail
        go_loopw [5, 22] (fun s i wi => ∃ x : Nat, x ≤ p ∧ i = .int .i64 x ∧ s = .bool (sameTo (opn n h) q x) ∧ ∃ m, wi = w2.drewN m) (fun _ i _ => p - (intOf i).toNat)
        case atStart => exact ⟨0, by omega, rfl, rfl, _, HWR.out⟩
        case round =>
          obtain ⟨x, hx, rfl, rfl, m2, hwi⟩ := hrel
          have hq0 : wr.cell? ⟨w.heap.size, 0, none⟩ = some (.int .i64 (p : Int)) := by rw [hwi]; exact HQ0.out
          have HBi : Hid (BoolsAt wr g 0 p (opn n h)) := by rw [hwi]; exact HBo.out
          have HWI := hid hwi
          clear hwi
          by_cases hlt2 : x < p
          · have hlm := Nat.mod_lt x (show 0 < q by omega)
            have hc1 := HBi.out.2 x hlt2
            have hc2 := HBi.out.2 (x % q) (by omega)
            rw [Nat.zero_add] at hc1 hc2
            have hE : (x : Int) % (q : Int) = ((x % q : Nat) : Int) := by simp
            have HST := hid (sameTo_step (opn n h) q x)
            cases hsm : sameTo (opn n h) q x
            · have HT : Hid (sameTo (opn n h) q (x + 1) = false) := by rw [Hid, HST.out, hsm]; rfl
              clear hsm hE hc2
              go_wp2_with fail
              go_quiet (fail)
              go_wp2
              go_roundw
              case rel => exact ⟨x + 1, by omega, by go_num, by rw [HT.out], m2 + nq, by rw [HWI.out]; simp⟩
              case measure => simp [intOf]; omega
            · generalize hfx : opn n h x = a at hc1
              generalize hfy : opn n h (x % q) = b at hc2
              have HT : Hid (sameTo (opn n h) q (x + 1) = (a == b)) := by rw [Hid, HST.out, hsm, hfx, hfy]; simp
              clear hfx hfy hsm
              generalize x % q = y at *
              cases a <;> cases b
              all_goals
                go_wp2_with fail
                go_quiet (fail)
                go_wp2
                go_roundw
                case rel => exact ⟨x + 1, by omega, by go_num, by rw [HT.out]; rfl, m2 + nq, by rw [HWI.out]; simp⟩
                case measure => simp [intOf]; omega
          · obtain rfl : x = p := by omega
            cases hsm : sameTo (opn n h) q x
            · have HP := hid (show isPer x (opn n h) q = false by rw [sameTo_all] at hsm; simp [isPer, hsm])
              clear hsm
              go_wp2
              go_roundw
              case rel => exact ⟨q + 1, by omega, by omega, by go_num, hid (fun j hj => by (by_cases e : j = q; (subst e; exact HP.out); exact HN.out j (by omega))), m2, HWI.out⟩
              case measure => simp [intOf]; omega
            · have HP := hid (plainP_some hlt (show isPer x (opn n h) q = true by rw [sameTo_all] at hsm; simp [isPer, hsm, HMOD.out]; omega) HN.out)
              have HRi : Hid (Blk wr (w.heap.size + 1) 40 #[.int .i64 0, .slice none 0 0]) := by rw [HWI.out]; exact HR2.out
              have hwi : Hid (Below w.heap.size w wr) := by rw [HWI.out]; exact bdn hw2.out _
              have hsi : w.heap.size + 1 < wr.heap.size := by rw [HWI.out]; exact hs2
              clear hsm
              go_wp2_with (go_at_call 95; refine (rWindow_any _ _ _ _ _ (HBi.out.upto_ q hq) (by omega)).mono ?_; rintro e w4 ⟨A4, c4, rfl, hh4, hb4⟩; have hR4 := HRi.out.below' hb4; have hd0 := hR4.cell 0; have hd1 := hR4.cell 1; have hf0 := hR4.frozen 0; have hf1 := hR4.frozen 1; clear hR4; simp only [List.getElem?_toArray, List.getElem?_cons_succ, List.getElem?_cons_zero] at hd0 hd1)
              refine bodyPost_ret (v := .agg #[.int .i64 (q : Int), .slice A4 (hsL (opn n h) q).length c4]) (by simp [results, Try.results78, go_sem, hd0, hd1, hf0, hf1]) rfl ⟨A4, c4, by rw [HP.out], ?_, ?_⟩
              · rw [HP.out]; exact ((hh4.set_ (a := ⟨w.heap.size + 1, 0, none⟩) (by simp; omega) _).set_ (a := ⟨w.heap.size + 1, 1, none⟩) (by simp; omega) _).mono (by omega)
              · exact ((btr hwi.out hb4 (by omega)).setCell (p := ⟨w.heap.size + 1, 0, none⟩) (Nat.le_succ _) _).setCell (p := ⟨w.heap.size + 1, 1, none⟩) (Nat.le_succ _) _
      · have HP := hid (show isPer p (opn n h) q = false by simp [isPer, hmod])
        have hm0 : ((p : Int) % (q : Int) != 0) = true := by
          have : ((p % q : Nat) : Int) ≠ 0 := by omega
          rw [Int.natCast_emod] at this
          simpa using this
        clear hmod
        go_wp2
        go_roundw
        case rel => exact ⟨q + 1, by omega, by omega, by go_num, hid (fun j hj => by (by_cases e : j = q; (subst e; exact HP.out); exact HN.out j (by omega))), m, HWR.out⟩
        case measure => simp [intOf]; omega
    · obtain rfl : q = p := by omega
      have HP := hid (plainP_none HN.out)
      have HBi : Hid (BoolsAt wr g 0 q (opn n h)) := by rw [HWR.out]; exact HBo.out
      have HRi : Hid (Blk wr (w.heap.size + 1) 40 #[.int .i64 0, .slice none 0 0]) := by rw [HWR.out]; exact HR2.out
      have hwi : Hid (Below w.heap.size w wr) := by rw [HWR.out]; exact bdn hw2.out _
      have hsi : w.heap.size + 1 < wr.heap.size := by rw [HWR.out]; exact hs2
      go_wp2_with (go_at_call 95; refine (rWindow_any _ _ _ _ _ HBi.out (by omega)).mono ?_; rintro e w4 ⟨A4, c4, rfl, hh4, hb4⟩; have hR4 := HRi.out.below' hb4; have hd0 := hR4.cell 0; have hd1 := hR4.cell 1; have hf0 := hR4.frozen 0; have hf1 := hR4.frozen 1; clear hR4; simp only [List.getElem?_toArray, List.getElem?_cons_succ, List.getElem?_cons_zero] at hd0 hd1)
      refine bodyPost_ret (v := .agg #[.int .i64 (q : Int), .slice A4 (hsL (opn n h) q).length c4]) (by simp [results, Try.results78, go_sem, hd0, hd1, hf0, hf1]) rfl ⟨A4, c4, by rw [HP.out], ?_, ?_⟩
      · rw [HP.out]; exact ((hh4.set_ (a := ⟨w.heap.size + 1, 0, none⟩) (by simp; omega) _).set_ (a := ⟨w.heap.size + 1, 1, none⟩) (by simp; omega) _).mono (by omega)
      · exact ((btr hwi.out hb4 (by omega)).setCell (p := ⟨w.heap.size + 1, 0, none⟩) (Nat.le_succ _) _).setCell (p := ⟨w.heap.size + 1, 1, none⟩) (Nat.le_succ _) _

set_option maxHeartbeats 1000000 in
theorem rPlainE_any (P : Int) (A : Option Addr) (n c : Nat) (h : Nat → Int) (w : World) (hh : HoursAt w A n h) :
    Calls Try.prog 62 #[.agg #[.int .i64 P, .slice A n c]] w (WinV w (plainOf P n h)) := by
  cases hw : winB P n h 3600
  · rw [show plainOf P n h = wvErr 50 by simp [plainOf, hw]]
    go_enter Try.func62, Try.ntmps62
    go_wp2_with (go_at_call 35; refine (rWide_any _ _ _ _ _ _ ((hh.alloc _).alloc _)).mono ?_; rintro e w1 ⟨rfl, hb1⟩; have hcc := bcell hb1; have hs1 : w.heap.size + 1 < w1.heap.size := (by have := hb1.size; simp at this; omega))
    refine bodyPost_ret (v := .tuple #[.agg #[.int .i64 0, .slice none 0 0], .int .i64 50]) (by simp [results, Try.results62, go_sem, hcc.1, hcc.2, hs1]) rfl ⟨none, 0, rfl, hoursGe_none _ _, ?_⟩
    exact (((box_trans _ (box_trans _ hb1)).setCell (p := ⟨w.heap.size + 1, 0, none⟩) (Nat.le_succ _) _).setCell (p := ⟨w.heap.size + 1, 1, none⟩) (Nat.le_succ _) _)
  · have hv := (winB_true.1 hw).1
    obtain ⟨p, rfl⟩ := Int.eq_ofNat_of_zero_le (show 0 ≤ P by omega)
    have HW := hid hw
    rw [show plainOf p n h = wvOk (plainP p (opn n h)) (opn n h) by simp [plainOf, hw]]
    have HR0 : Hid (Blk ((w.alloc (.cells #[.int .i64 (p : Int), .slice A n c] 40)).alloc (.cells #[.int .i64 0, .slice none 0 0] 40)) (w.heap.size + 1) 40 #[.int .i64 0, .slice none 0 0]) := hid (by
      have := Blk.new (w.alloc (.cells #[.int .i64 (p : Int), .slice A n c] 40)) 40 #[.int .i64 0, .slice none 0 0]
      simpa using this)
    go_enter Try.func62, Try.ntmps62
    go_wp2_with (first
      | (go_at_call 35; refine (rWide_any _ _ _ _ _ _ ((hh.alloc _).alloc _)).mono ?_; rintro e w1 ⟨rfl, hb1⟩; have hcc := (bcell hb1).1; have hs1 : w.heap.size + 1 < w1.heap.size := (by have := hb1.size; simp at this; omega))
      | (go_at_call 78; refine (rPlain_any _ _ _ _ _ _ (((hh.alloc _).alloc _).below hb1) HW.out).mono ?_; rintro e w4 ⟨A4, c4, rfl, hh4, hb4⟩; have hR4 := (HR0.out.below' hb1).below' hb4; have hd0 := hR4.cell 0; have hd1 := hR4.cell 1; have hf0 := hR4.frozen 0; have hf1 := hR4.frozen 1; clear hR4; simp only [List.getElem?_toArray, List.getElem?_cons_succ, List.getElem?_cons_zero] at hd0 hd1))
    refine bodyPost_ret (v := .tuple #[.agg #[.int .i64 (plainP p (opn n h) : Nat), .slice A4 (hsL (opn n h) (plainP p (opn n h))).length c4], .int .i64 0]) (by simp [results, Try.results62, go_sem, hd0, hd1, hf0, hf1]) rfl ⟨A4, c4, rfl, ?_, ?_⟩
    · exact ((hh4.set_ (a := ⟨w.heap.size + 1, 0, none⟩) (by simp; omega) _).set_ (a := ⟨w.heap.size + 1, 1, none⟩) (by simp; omega) _).mono (by omega)
    · exact ((btr (box_trans _ (box_trans _ hb1)) hb4 (by omega)).setCell (p := ⟨w.heap.size + 1, 0, none⟩) (Nat.le_succ _) _).setCell (p := ⟨w.heap.size + 1, 1, none⟩) (Nat.le_succ _) _
end Go.Proofs.Ytfabpkcgdblnbaa
