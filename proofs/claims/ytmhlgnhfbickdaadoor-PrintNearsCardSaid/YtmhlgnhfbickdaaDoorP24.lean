/-
  How many rows a print has: the reference. Conditions: the print's length is an int's.
-/
import Derived.BigRegion
import Derived.Deep.LoopGhost
import Derived.Test.YtmhlgnhfbickdaaDoorP23
namespace Go.Proofs.YtmhlgnhfbickdaaDoor
set_option linter.unusedVariables false
set_option linter.unusedSimpArgs false
open Go.RowKit Go.Shelf

def rowG (l : List UInt8) (i q : Nat) : Nat → Nat := fun j => if j = i then ps (l.drop i) q else if i + 1 ≤ j then rws (l.drop j) else 0
set_option maxRecDepth 100000 in
set_option maxHeartbeats 4000000 in
/-- skimmerref09.Rows -/
theorem rRows_any (s : ByteArray) (w : World) (hs : s.size ≤ 9223372036854775807) : Calls Tryd.prog 53 #[.string s] w (RowsR w s) := by
  cases hv : valB s
  · have HV := hid hv
    have HR := hid (rowsV_no hv)
    clear hv
    go_enter Tryd.func53, Tryd.ntmps53
    go_wp2_with (go_at_call 21; refine (rValid_any _ _ hs).mono ?_; rintro e w' ⟨rfl, rfl⟩; rw [HV.out])
    refine bodyPost_ret (v := .tuple #[.int .i64 0, .int .i64 90]) (by simp [results, Tryd.results53, go_sem]) rfl ⟨by rw [HR.out.1, HR.out.2], Below.refl _ _⟩
  · have h20 := (valB_true.1 hv).1
    have HV := hid hv
    have HR := hid (rowsV_yes hv)
    have HAB := hid fun (i : Nat) (x : UInt8) (hx : x ∈ s.data.toList.drop i) => abc_mem hv x (List.mem_of_mem_drop hx)
    have HLEN : Hid (s.data.toList.length = s.size) := hid (by simp)
    have hmk := run_mkints (s.size + 1) (by omega)
    rw [show ((s.size + 1 : Nat) : Int) = (s.size : Int) + 1 by omega] at hmk
    clear hv
    go_enter Tryd.func53, Tryd.ntmps53
    go_wp2_with fail
    refine (rValid_any _ _ hs).mono ?_
    rintro e w' ⟨rfl, rfl⟩
    rw [HV.out]
    go_wp2
    have HB0 : Hid (Blk (w.alloc (.cells (intsA (s.size + 1) fun _ => 0) 3)) w.heap.size 3 (intsA (s.size + 1) fun j => if s.size + 1 ≤ j then rws (s.data.toList.drop j) else 0)) := hid (by
      have h := Blk.new w 3 (intsA (s.size + 1) fun _ => 0)
      rw [intsA_congr (g := fun j => if s.size + 1 ≤ j then rws (s.data.toList.drop j) else 0) (fun j hj => (if_neg (by omega)).symm)] at h
      rw [← intsA_congr (f := fun _ => 0) (g := fun j => if s.size + 1 ≤ j then rws (s.data.toList.drop j) else 0) (fun j hj => (if_neg (by omega)).symm)] at h ⊢
      exact h)
    clear hmk
    go_loopg [5] (s.size + 1) (fun gi x wr => gi ≤ s.size + 1 ∧ x = .int .i64 ((gi : Int) - 1) ∧ Hid (Blk wr w.heap.size 3 (intsA (s.size + 1) fun j => if gi ≤ j then rws (s.data.toList.drop j) else 0)) ∧ Hid (Below w.heap.size w wr))
    case atStart => exact ⟨Nat.le_refl _, by rw [show (((s.size + 1 : Nat) : Int) - 1) = (s.size : Int) by omega], HB0, hid (box_bel w _)⟩
    case round =>
      obtain ⟨hgi, rfl, HB, HW⟩ := hrel
      clear HB0
      by_cases hg0 : gk = 0
      · subst hg0
        have c0 := (HB.out.cell 0).trans (intsA_get (by omega))
        rw [if_pos (Nat.zero_le _), List.drop_zero] at c0
        have i1 : (0 : Int) < (s.size : Int) + 1 := by omega
        go_wp2
        refine bodyPost_ret (v := .tuple #[.int .i64 (rws s.data.toList : Int), .int .i64 0]) (by simp [results, Tryd.results53, go_sem]) rfl ⟨by rw [HR.out.1, HR.out.2], HW.out⟩
      · obtain ⟨i, rfl⟩ : ∃ i, gk = i + 1 := ⟨gk - 1, by omega⟩
        rw [show ((i + 1 : Nat) : Int) - 1 = (i : Int) by omega]
        have hi20 : i ≤ s.size := by omega
        have b1 : (i : Int) < (s.size : Int) + 1 := by omega
        have c1 := (HB.out.cell i).trans (intsA_get (by omega))
        have f1 := HB.out.frozen i
        have lB := HB.out.lt
        have HG : Hid (Blk (wr.setCell ⟨w.heap.size, i, none⟩ (.int .i64 1)) w.heap.size 3 (intsA (s.size + 1) (rowG s.data.toList i 0)) ∧ Below w.heap.size w (wr.setCell ⟨w.heap.size, i, none⟩ (.int .i64 1))) := hid (by
          refine ⟨?_, HW.out.setCell (p := ⟨w.heap.size, i, none⟩) (Nat.le_refl _) _⟩
          have h := HB.out.set_ i (.int .i64 ((1 : Nat) : Int))
          rw [intsA_set (by omega)] at h
          rw [intsA_congr (g := fun j => if j = i then 1 else if i + 1 ≤ j then rws (s.data.toList.drop j) else 0) (fun j hj => by unfold rowG; rfl)]
          exact h)
        clear HB HW
        go_wp2
        clear c1 f1
        go_loopg [6] 8 (fun gq x wj => ∃ q : Nat, gq + q = 8 ∧ x = .int .u8 (97 + (q : Int)) ∧ Hid (Blk wj w.heap.size 3 (intsA (s.size + 1) (rowG s.data.toList i q)) ∧ Below w.heap.size w wj))
        case atStart => exact ⟨0, rfl, rfl, HG⟩
        case round =>
          obtain ⟨q, hq, rfl, HQ⟩ := hrel
          clear HG
          by_cases hq8 : q = 8
          · subst hq8
            go_wp2
            go_roundg i
            case measure => omega
            case rel =>
              refine ⟨by omega, rfl, hid ?_, hid HQ.out.2⟩
              rw [intsA_congr (g := rowG s.data.toList i 8) (fun j hj => ?_)]
              · exact HQ.out.1
              · unfold rowG
                by_cases e : j = i
                · subst e
                  rw [if_pos (Nat.le_refl _), if_pos rfl, ps_all (HAB.out j)]
                · rw [if_neg e]
                  by_cases h : i ≤ j
                  · rw [if_pos h, if_pos (by omega)]
                  · rw [if_neg h, if_neg (by omega)]
          · have hq7 : q < 8 := by omega
            obtain ⟨fd, hfd⟩ : ∃ fd, findI (s.data.toList.drop i) (abc.getD q 0) = fd := ⟨_, rfl⟩
            have hfind : ∀ wx, Calls Tryd.prog 80 #[.string (s.extract i s.size), .int .u8 (97 + (q : Int))] wx fun e w' => e = .returned (.int .i64 fd) ∧ wx = w' := fun wx => by
              have h := find_any (s.extract i s.size) (abc.getD q 0) wx (by simp; omega)
              rw [Lib.extract_to_end, abc_get hq7, show ((97 + q : Nat) : Int) = 97 + (q : Int) by omega, hfd] at h
              exact h
            have HF := hid hfind
            have HPS := hid (ps_succ (s.data.toList.drop i) hq7)
            have HH := hid (hws_fnd (s.data.toList.drop i) (abc.getD q 0))
            obtain ⟨k, hk⟩ : ∃ k, fnd (s.data.toList.drop i) (abc.getD q 0) = k := ⟨_, rfl⟩
            have hdl : (s.data.toList.drop i).length = s.size - i := by rw [List.length_drop, HLEN.out]
            have hfd2 : fd = if k < s.size - i then (k : Int) else -1 := by rw [← hfd, ← hk, ← hdl]; rfl
            have HFD := hid (And.intro hk hdl)
            clear hfind hfd hk hdl hq8
            by_cases hfo : k < s.size - i
            · rw [if_pos hfo] at hfd2
              subst hfd2
              obtain ⟨m, hm⟩ : ∃ m, i + k = m := ⟨_, rfl⟩
              have ei : (i : Int) + (k : Int) = (m : Int) := by omega
              have a1 := (HQ.out.1.cell i).trans (intsA_get (by omega))
              have a2 := (HQ.out.1.cell (m + 1)).trans (intsA_get (by omega))
              have f1 := HQ.out.1.frozen i
              have e1 : rowG s.data.toList i q i = ps (s.data.toList.drop i) q := by unfold rowG; rw [if_pos rfl]
              have e2 : rowG s.data.toList i q (m + 1) = rws (s.data.toList.drop (m + 1)) := by unfold rowG; rw [if_neg (by omega), if_pos (by omega)]
              have s1 : ps (s.data.toList.drop i) q ≤ 1048576 := Nat.le_trans (ps_le (HAB.out i) (by omega)) (rws_small (by rw [HFD.out.2]; omega))
              have s2 : rws (s.data.toList.drop (m + 1)) ≤ 1048576 := rws_small (by rw [List.length_drop, HLEN.out]; omega)
              rw [e1] at a1
              rw [e2] at a2
              have HNX : Hid (ps (s.data.toList.drop i) (q + 1) = ps (s.data.toList.drop i) q + rws (s.data.toList.drop (m + 1))) := hid (by
                rw [HPS.out, HH.out, HFD.out.1, HFD.out.2, if_pos hfo, List.drop_drop, show i + (k + 1) = m + 1 by omega])
              obtain ⟨x, hx⟩ : ∃ x, ps (s.data.toList.drop i) q = x := ⟨_, rfl⟩
              obtain ⟨y, hy⟩ : ∃ y, rws (s.data.toList.drop (m + 1)) = y := ⟨_, rfl⟩
              rw [hx] at a1 s1
              rw [hy] at a2 s2
              have HXY := hid (And.intro hx hy)
              have b2 : (m : Int) + 1 < (s.size : Int) + 1 := by omega
              have HM := hid hm
              clear hx hy e1 e2 hm hfo
              go_wp2_with fail
              refine (HF.out _).mono ?_
              rintro e w' ⟨rfl, rfl⟩
              go_wp2
              go_region
              go_wp2
              go_roundg (gk - 1)
              case measure => omega
              case rel =>
                refine ⟨q + 1, by omega, congrArg (Value.int .u8) (by omega), hid ⟨?_, bdn (HQ.out.2.setCell (p := ⟨w.heap.size, i, none⟩) (Nat.le_refl _) _) 1⟩⟩
                have h := (HQ.out.1.set_ i (.int .i64 ((x + y : Nat) : Int))).drewN 1
                rw [intsA_set (by omega)] at h
                rw [show (x : Int) + (y : Int) = ((x + y : Nat) : Int) by omega]
                rw [intsA_congr (g := fun j => if j = i then x + y else rowG s.data.toList i q j) (fun j hj => ?_)]
                · exact h
                · unfold rowG
                  by_cases e : j = i
                  · rw [if_pos e, if_pos e, HNX.out, HXY.out.1, HXY.out.2]
                  · rw [if_neg e, if_neg e, if_neg e]
            · rw [if_neg hfo] at hfd2
              subst hfd2
              have HNX : Hid (ps (s.data.toList.drop i) (q + 1) = ps (s.data.toList.drop i) q) := hid (by
                rw [HPS.out, HH.out, HFD.out.1, HFD.out.2, if_neg hfo]; rfl)
              clear hfo
              go_wp2_with fail
              refine (HF.out _).mono ?_
              rintro e w' ⟨rfl, rfl⟩
              go_wp2
              go_roundg (gk - 1)
              case measure => omega
              case rel =>
                refine ⟨q + 1, by omega, congrArg (Value.int .u8) (by omega), hid ⟨?_, HQ.out.2⟩⟩
                rw [intsA_congr (g := rowG s.data.toList i q) (fun j hj => ?_)]
                · exact HQ.out.1
                · unfold rowG
                  by_cases e : j = i
                  · rw [if_pos e, if_pos e, HNX.out]
                  · rw [if_neg e, if_neg e]
end Go.Proofs.YtmhlgnhfbickdaaDoor
