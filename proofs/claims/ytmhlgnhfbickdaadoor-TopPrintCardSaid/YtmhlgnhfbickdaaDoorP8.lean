/-
  The reference's tables: the walk. Conditions: the prints are short.
-/
import Derived.BigRegion
import Derived.Deep.LoopGhost
import Derived.Deep.Cut
import Derived.Deep.CutRange
import Derived.Test.YtmhlgnhfbickdaaDoorP7
namespace Go.Proofs.YtmhlgnhfbickdaaDoor
set_option linter.unusedVariables false
set_option linter.unusedSimpArgs false
open Go.RowKit Go.Shelf

def LeftR (w : World) (s t : ByteArray) (p c : Nat) (e : Ending) (w' : World) : Prop :=
  ∃ B Y g h, e = .returned (.tuple #[.slice (some ⟨B, 0, none⟩) (s.size + 1) (s.size + 1), .slice (some ⟨Y, 0, none⟩) (s.size + 1) (s.size + 1)]) ∧ OutL w w' s t p c B Y 0 g h
/-- what stands at a place, some steps seen -/
def cur (s t : ByteArray) (p c : Nat) (l : List St) : Nat × Nat := if l.isEmpty then (0, 0) else bst (cand s t p c) l
def rowF (s t : ByteArray) (p c i k : Nat) (v : Nat × Nat) : Nat → Nat × Nat := fun j => if j = k then v else if k < j then val s t p c i j else (0, 0)
theorem val_end (s t : ByteArray) (p c : Nat) : val s t p c s.size t.size = (0, 1) := by
  unfold val
  rw [List.drop_of_length_le (by simp), List.drop_of_length_le (by simp), dw_nil_nil]
def coN (p c : Nat) : Nat → Nat
  | 1 => 0
  | 2 => c
  | _ => p
theorem coS_N (p c e : Nat) : coS (p : Int) (c : Int) e = (coN p c e : Int) := by
  unfold coS coN
  split <;> simp_all
theorem okS_spec {S T : List UInt8} {i k e p c : Nat} (h : okS S T i k e = true) (hi : i ≤ S.length) (hk : k ≤ T.length) (hp : p ≤ 9) (hc : c ≤ 9) :
    i + diS e ≤ S.length ∧ k + dkS e ≤ T.length ∧ 1 ≤ diS e + dkS e ∧ diS e ≤ 1 ∧ dkS e ≤ 1 ∧ coN p c e ≤ 9 := by
  unfold okS at h
  split at h
  · simp only [Bool.and_eq_true, decide_eq_true_eq] at h; simp only [diS, dkS, coN]; omega
  · simp only [Bool.and_eq_true, decide_eq_true_eq] at h; simp only [diS, dkS, coN]; omega
  · simp only [decide_eq_true_eq] at h; simp only [diS, dkS, coN]; omega
  · simp only [decide_eq_true_eq] at h; simp only [diS, dkS, coN]; omega
  · cases h
theorem uptoS_sub {S T : List UInt8} {p c : Int} {i k n : Nat} (h : n ≤ 4) {x : St} (hx : x ∈ uptoS S T p c i k n) : x ∈ stepsL S T p c i k := by
  rw [stepsL_upto]
  unfold uptoS at hx ⊢
  obtain ⟨e, he, hx⟩ := List.mem_flatMap.1 hx
  exact List.mem_flatMap.2 ⟨e, List.mem_range.2 (by have := List.mem_range.1 he; omega), hx⟩
theorem uptoS_len (S T : List UInt8) (p c : Int) (i k : Nat) : ∀ n, (uptoS S T p c i k n).length ≤ n := by
  intro n
  induction n with
  | zero => simp [uptoS]
  | succ n ih =>
    rw [uptoS_succ, List.length_append]
    have : (seg S T p c i k (n + 1)).length ≤ 1 := by unfold seg; split <;> simp
    omega
theorem cand_bound {s t : ByteArray} {p c i k : Nat} (hs : s.size ≤ 20) (ht : t.size ≤ 20) (hp : p ≤ 9) (hc : c ≤ 9) (hi : i ≤ s.size) (hk : k ≤ t.size) {x : St} (hx : x ∈ stepsL s.data.toList t.data.toList (p : Int) (c : Int) i k) :
    (cand s t p c x).1 ≤ 369 ∧ (cand s t p c x).2 ≤ 3 ^ 38 := by
  obtain ⟨i2, k2, q2, e1, e2, e3, h4, h5⟩ := steps_mem hx
  have l1 : s.data.toList.length = s.size := by simp
  have l2 : t.data.toList.length = t.size := by simp
  rw [l1, l2] at h5
  have v1 := val_cost (p := p) (c := c) (i := i2) (k := k2) hs ht hp
  have v2 := val_ways (p := p) (c := c) (i := i2) (k := k2) hs ht (by omega) (by omega) (by omega)
  unfold cand add1
  rw [e1, e2, e3]
  simp only [Int.toNat_natCast]
  exact ⟨by omega, v2⟩
section
variable {w wr : World} {s t : ByteArray} {p c B Y i k : Nat} {g h : Nat → Nat} {u v : Nat × Nat}
theorem RowL.both (H : RowL w wr s t p c B Y i g h (rowF s t p c i k u)) (hk : k < t.size + 1) (v : Nat × Nat) :
    RowL w ((wr.setCell ⟨g i, k, none⟩ (.int .i64 (v.1 : Int))).setCell ⟨h i, k, none⟩ (.int .i64 (v.2 : Int))).drew s t p c B Y i g h (rowF s t p c i k v) :=
  RowL.next (((H.setB hk v.1).setY hk v.2).congr fun j hj => by
    unfold rowF
    by_cases e : j = k
    · subst e; simp
    · simp [e]) (bdr _ 1)
theorem RowL.both' (H : RowL w wr s t p c B Y i g h (rowF s t p c i k u)) (hk : k < t.size + 1) (v : Nat × Nat) :
    RowL w ((wr.setCell ⟨h i, k, none⟩ (.int .i64 (v.2 : Int))).setCell ⟨g i, k, none⟩ (.int .i64 (v.1 : Int))).drew s t p c B Y i g h (rowF s t p c i k v) :=
  RowL.next (((H.setY hk v.2).setB hk v.1).congr fun j hj => by
    unfold rowF
    by_cases e : j = k
    · subst e; simp
    · simp [e]) (bdr _ 1)
theorem RowL.ways (H : RowL w wr s t p c B Y i g h (rowF s t p c i k u)) (hk : k < t.size + 1) (y : Nat) :
    RowL w (wr.setCell ⟨h i, k, none⟩ (.int .i64 (y : Int))).drew s t p c B Y i g h (rowF s t p c i k (u.1, y)) :=
  RowL.next ((H.setY hk y).congr fun j hj => by
    unfold rowF
    by_cases e : j = k
    · subst e; simp
    · simp [e]) (bdr _ 1)
end
theorem outL_new (w : World) (s t : ByteArray) (p c B Y : Nat) (hBY : (B = w.heap.size + 1 ∧ Y = w.heap.size + 1 + 1) ∨ (B = w.heap.size + 1 + 1 ∧ Y = w.heap.size + 1)) :
    OutL w (((w.alloc (.cells #[.int .i64 (p : Int), .int .i64 (c : Int)] 24)).alloc (.cells (rowsA (s.size + 1) (t.size + 1) (s.size + 1) fun _ => 0) 25)).alloc (.cells (rowsA (s.size + 1) (t.size + 1) (s.size + 1) fun _ => 0) 25)).drew s t p c B Y (s.size + 1) (fun _ => 0) (fun _ => 0) := by
  have h1 := ((Blk.new (w.alloc (.cells #[.int .i64 (p : Int), .int .i64 (c : Int)] 24)) 25 (rowsA (s.size + 1) (t.size + 1) (s.size + 1) fun _ => 0)).alloc (.cells (rowsA (s.size + 1) (t.size + 1) (s.size + 1) fun _ => 0) 25)).drewN 1
  have h2 := (Blk.new ((w.alloc (.cells #[.int .i64 (p : Int), .int .i64 (c : Int)] 24)).alloc (.cells (rowsA (s.size + 1) (t.size + 1) (s.size + 1) fun _ => 0) 25)) 25 (rowsA (s.size + 1) (t.size + 1) (s.size + 1) fun _ => 0)).drewN 1
  rw [show (w.alloc (.cells #[.int .i64 (p : Int), .int .i64 (c : Int)] 24)).heap.size = w.heap.size + 1 by simp] at h1
  rw [show ((w.alloc (.cells #[.int .i64 (p : Int), .int .i64 (c : Int)] 24)).alloc (.cells (rowsA (s.size + 1) (t.size + 1) (s.size + 1) fun _ => 0) 25)).heap.size = w.heap.size + 1 + 1 by simp] at h2
  have hb := bdn ((((box_bel w (.cells #[.int .i64 (p : Int), .int .i64 (c : Int)] 24))).trans ((box_bel _ (.cells (rowsA (s.size + 1) (t.size + 1) (s.size + 1) fun _ => 0) 25)).mono (by simp))).trans ((box_bel _ (.cells (rowsA (s.size + 1) (t.size + 1) (s.size + 1) fun _ => 0) 25)).mono (by simp; omega))) 1
  have h5 := (((Blk.new w 24 #[.int .i64 (p : Int), .int .i64 (c : Int)]).alloc (.cells (rowsA (s.size + 1) (t.size + 1) (s.size + 1) fun _ => 0) 25)).alloc (.cells (rowsA (s.size + 1) (t.size + 1) (s.size + 1) fun _ => 0) 25)).drewN 1
  rcases hBY with ⟨rfl, rfl⟩ | ⟨rfl, rfl⟩
  · exact ⟨h5, h1, h2, fun i h1 h2 => by omega, fun i h1 h2 => by omega, by omega, by omega, hb⟩
  · exact ⟨h5, h2, h1, fun i h1 h2 => by omega, fun i h1 h2 => by omega, by omega, by omega, hb⟩
theorem OutL.row2 {w wr : World} {s t : ByteArray} {p c B Y i x y : Nat} {g h : Nat → Nat} (H : OutL w wr s t p c B Y (i + 1) g h) (hi : i ≤ s.size) (hxy : (x = wr.heap.size ∧ y = wr.heap.size + 1) ∨ (x = wr.heap.size + 1 ∧ y = wr.heap.size)) :
    RowL w ((((wr.setCell ⟨B, i, none⟩ (.slice (some ⟨x, 0, none⟩) (t.size + 1) (t.size + 1))).setCell ⟨Y, i, none⟩ (.slice (some ⟨y, 0, none⟩) (t.size + 1) (t.size + 1))).alloc (.cells (intsA (t.size + 1) fun _ => 0) 3)).alloc (.cells (intsA (t.size + 1) fun _ => 0) 3)).drew s t p c B Y i (fun j => if j = i then x else g j) (fun j => if j = i then y else h j) (fun _ => (0, 0)) := by
  have lB := H.bo.lt
  have lY := H.yo.lt
  have l5 := H.b5.lt
  have lw := H.lo
  have n5 : w.heap.size ≠ B := Nat.ne_of_lt H.lo.1
  have n6 : w.heap.size ≠ Y := Nat.ne_of_lt H.lo.2
  have szA : ∀ (W : World) (o : Obj), (W.alloc o).heap.size = W.heap.size + 1 := fun W o => by simp
  have sz : ((wr.setCell ⟨B, i, none⟩ (.slice (some ⟨x, 0, none⟩) (t.size + 1) (t.size + 1))).setCell ⟨Y, i, none⟩ (.slice (some ⟨y, 0, none⟩) (t.size + 1) (t.size + 1))).heap.size = wr.heap.size := by simp [World.setCell]
  have far : ∀ {z ty : Nat} {cs : Array Value}, Blk wr z ty cs → z ≠ B → z ≠ Y → Blk ((((wr.setCell ⟨B, i, none⟩ (.slice (some ⟨x, 0, none⟩) (t.size + 1) (t.size + 1))).setCell ⟨Y, i, none⟩ (.slice (some ⟨y, 0, none⟩) (t.size + 1) (t.size + 1))).alloc (.cells (intsA (t.size + 1) fun _ => 0) 3)).alloc (.cells (intsA (t.size + 1) fun _ => 0) 3)).drew z ty cs :=
    fun hz h1 h2 => ((((hz.far (p := ⟨B, i, none⟩) h1 _).far (p := ⟨Y, i, none⟩) h2 _).alloc _).alloc _).drewN 1
  have m1 : Blk ((((wr.setCell ⟨B, i, none⟩ (.slice (some ⟨x, 0, none⟩) (t.size + 1) (t.size + 1))).setCell ⟨Y, i, none⟩ (.slice (some ⟨y, 0, none⟩) (t.size + 1) (t.size + 1))).alloc (.cells (intsA (t.size + 1) fun _ => 0) 3)).alloc (.cells (intsA (t.size + 1) fun _ => 0) 3)).drew wr.heap.size 3 (intsA (t.size + 1) fun _ => 0) := by
    have h1 := ((Blk.new ((wr.setCell ⟨B, i, none⟩ (.slice (some ⟨x, 0, none⟩) (t.size + 1) (t.size + 1))).setCell ⟨Y, i, none⟩ (.slice (some ⟨y, 0, none⟩) (t.size + 1) (t.size + 1))) 3 (intsA (t.size + 1) fun _ => 0)).alloc (.cells (intsA (t.size + 1) fun _ => 0) 3)).drewN 1
    rw [sz] at h1
    exact h1
  have m2 : Blk ((((wr.setCell ⟨B, i, none⟩ (.slice (some ⟨x, 0, none⟩) (t.size + 1) (t.size + 1))).setCell ⟨Y, i, none⟩ (.slice (some ⟨y, 0, none⟩) (t.size + 1) (t.size + 1))).alloc (.cells (intsA (t.size + 1) fun _ => 0) 3)).alloc (.cells (intsA (t.size + 1) fun _ => 0) 3)).drew (wr.heap.size + 1) 3 (intsA (t.size + 1) fun _ => 0) := by
    have h1 := (Blk.new (((wr.setCell ⟨B, i, none⟩ (.slice (some ⟨x, 0, none⟩) (t.size + 1) (t.size + 1))).setCell ⟨Y, i, none⟩ (.slice (some ⟨y, 0, none⟩) (t.size + 1) (t.size + 1))).alloc (.cells (intsA (t.size + 1) fun _ => 0) 3)) 3 (intsA (t.size + 1) fun _ => 0)).drewN 1
    rw [szA, sz] at h1
    exact h1
  refine ⟨far H.b5 n5 n6, ?_, ?_, fun i' h1 h2 => ?_, fun i' h1 h2 => ?_, ?_, ?_, ?_, H.ne, H.lo, ?_, ?_⟩
  · have h1 := (H.bo.set_ i (.slice (some ⟨x, 0, none⟩) (t.size + 1) (t.size + 1))).far (p := ⟨Y, i, none⟩) H.ne (.slice (some ⟨y, 0, none⟩) (t.size + 1) (t.size + 1))
    rw [rowsA_set _ (by omega)] at h1
    exact ((h1.alloc _).alloc _).drewN 1
  · have h1 := (H.yo.far (p := ⟨B, i, none⟩) (Ne.symm H.ne) (.slice (some ⟨x, 0, none⟩) (t.size + 1) (t.size + 1))).set_ i (.slice (some ⟨y, 0, none⟩) (t.size + 1) (t.size + 1))
    rw [rowsA_set _ (by omega)] at h1
    exact ((h1.alloc _).alloc _).drewN 1
  · have hne : ¬ i' = i := by omega
    have hbr := H.br i' (by omega) h2
    have := hbr.lt
    simp only [if_neg hne, if_true]
    exact ⟨far hbr (hbr.ne_ H.bo (by decide)) (hbr.ne_ H.yo (by decide)), by omega, by omega⟩
  · have hne : ¬ i' = i := by omega
    have hbr := H.yr i' (by omega) h2
    have := hbr.lt
    simp only [if_neg hne, if_true]
    exact ⟨far hbr (hbr.ne_ H.bo (by decide)) (hbr.ne_ H.yo (by decide)), by omega, by omega⟩
  · simp only [if_true]
    rcases hxy with ⟨rfl, rfl⟩ | ⟨rfl, rfl⟩ <;> assumption
  · simp only [if_true]
    rcases hxy with ⟨rfl, rfl⟩ | ⟨rfl, rfl⟩ <;> assumption
  · simp only [if_true]
    omega
  · simp only [if_true]
    omega
  · exact bdn ((((H.bel.setCell (p := ⟨B, i, none⟩) (Nat.le_of_lt H.lo.1) _).setCell (p := ⟨Y, i, none⟩) (Nat.le_of_lt H.lo.2) _).alloc (by rw [sz]; exact H.bel.size) _).alloc (by rw [szA, sz]; have := H.bel.size; omega) _) 1

set_option maxRecDepth 100000 in
set_option maxHeartbeats 4000000 in
theorem left_any (s t : ByteArray) (p c : Nat) (w : World) (hs : s.size ≤ 20) (ht : t.size ≤ 20) (hp : p ≤ 9) (hc : c ≤ 9) :
    Calls Tryd.prog 69 #[.string s, .string t, .agg #[.int .i64 (p : Int), .int .i64 (c : Int)]] w (LeftR w s t p c) := by
  go_enter Tryd.func69, Tryd.ntmps69
  go_upto_region 1 with fail
  go_cut [6, 7] from 16 to 23 (fun x y wc => ∃ B Y, x = .slice (some ⟨B, 0, none⟩) (s.size + 1) (s.size + 1) ∧ y = .slice (some ⟨Y, 0, none⟩) (s.size + 1) (s.size + 1) ∧ Hid (OutL w wc s t p c B Y (s.size + 1) (fun _ => 0) (fun _ => 0)))
  case first =>
    have hmk := run_mkouter (s.size + 1) (t.size + 1) (fun _ => 0) (by omega)
    rw [show ((s.size + 1 : Nat) : Int) = (s.size : Int) + 1 by omega] at hmk
    go_region
    all_goals
      go_wp2
      go_meet
      clear hmk
    all_goals
      refine ⟨_, _, rfl, rfl, hid (outL_new _ _ _ _ _ _ _ ?_)⟩
    · omega
    · omega
  case rest =>
    obtain ⟨B, Y, rfl, rfl, HO⟩ := hcut
    go_wp2
    go_loopg [8] (s.size + 1) (fun gi x wr => ∃ g h, gi ≤ s.size + 1 ∧ x = .int .i64 ((gi : Int) - 1) ∧ Hid (OutL w wr s t p c B Y gi g h))
    case atStart => exact ⟨_, _, Nat.le_refl _, by rw [show (((s.size + 1 : Nat) : Int) - 1) = (s.size : Int) by omega], HO⟩
    case round =>
      obtain ⟨g, h, hgi, rfl, HL⟩ := hrel
      by_cases hg0 : gk = 0
      · subst hg0
        go_wp2
        refine bodyPost_ret (v := .tuple #[.slice (some ⟨B, 0, none⟩) (s.size + 1) (s.size + 1), .slice (some ⟨Y, 0, none⟩) (s.size + 1) (s.size + 1)]) (by simp [results, Tryd.results69, go_sem]) rfl ⟨B, Y, g, h, rfl, HL.out⟩
      · obtain ⟨i, rfl⟩ : ∃ i, gk = i + 1 := ⟨gk - 1, by omega⟩
        rw [show ((i + 1 : Nat) : Int) - 1 = (i : Int) by omega]
        have hi20 : i ≤ s.size := by omega
        go_upto_region 5 with fail
        go_cut [] from 30 to 43 (fun wc => ∃ g h, Hid (RowL w wc s t p c B Y i g h (fun _ => (0, 0))))
        case first =>
          have hmk := run_mkints (t.size + 1) (by omega)
          rw [show ((t.size + 1 : Nat) : Int) = (t.size : Int) + 1 by omega] at hmk
          have co := (HL.out.bo.cell i).trans (rowsA_get (by omega))
          have cy := (HL.out.yo.cell i).trans (rowsA_get (by omega))
          rw [if_neg (by omega)] at co cy
          have fo := HL.out.bo.frozen i
          have fy := HL.out.yo.frozen i
          have lB := HL.out.bo.lt
          have lY := HL.out.yo.lt
          have hne := HL.out.ne
          have hne2 := hne.symm
          have hlti : (i : Int) < (s.size : Int) + 1 := by omega
          go_region
          all_goals
            go_wp2
            go_meet
            refine ⟨_, _, hid (HL.out.row2 hi20 ?_)⟩
          · omega
          · omega
        case rest =>
          clear HL
          obtain ⟨g, h, HI⟩ := hcut
          go_wp2
          go_loopg [9] (t.size + 1) (fun gj x wi => gj ≤ t.size + 1 ∧ x = .int .i64 ((gj : Int) - 1) ∧ Hid (RowL w wi s t p c B Y i g h (fun j => if gj ≤ j then val s t p c i j else (0, 0))))
          case atStart => exact ⟨Nat.le_refl _, by rw [show (((t.size + 1 : Nat) : Int) - 1) = (t.size : Int) by omega], hid (HI.out.congr fun k hk => by rw [if_neg (by omega)])⟩
          case round =>
            obtain ⟨hgj, rfl, HR⟩ := hrel
            clear HI
            by_cases hk0 : gk = 0
            · subst hk0
              go_wp2
              go_roundg i
              case measure => omega
              case rel => exact ⟨g, h, by omega, rfl, hid (HR.out.out fun k hk => if_pos (Nat.zero_le _))⟩
            · obtain ⟨k, rfl⟩ : ∃ k, gk = k + 1 := ⟨gk - 1, by omega⟩
              rw [show ((k + 1 : Nat) : Int) - 1 = (k : Int) by omega]
              have hk20 : k ≤ t.size := by omega
              go_upto_region 9 with fail
              go_cut [59] from 50 to 59 (fun v wd => v = .bool (decide (i = s.size ∧ k = t.size)) ∧ wd = wr)
              case first =>
                by_cases h1 : i = s.size
                · by_cases h2 : k = t.size
                  · have e1 : (i : Int) = (s.size : Int) := by omega
                    have e2 : (k : Int) = (t.size : Int) := by omega
                    have hd : decide (i = s.size ∧ k = t.size) = true := by simp [h1, h2]
                    have HD := hid hd
                    clear h1 h2 hd
                    go_wp2
                    go_meet
                    exact ⟨by rw [HD.out], rfl⟩
                  · have e1 : (i : Int) = (s.size : Int) := by omega
                    have e2 : ((k : Int) == (t.size : Int)) = false := by simp; omega
                    have hd : decide (i = s.size ∧ k = t.size) = false := by simp [h2]
                    have HD := hid hd
                    clear h1 h2 hd
                    go_wp2
                    go_meet
                    exact ⟨by rw [HD.out], rfl⟩
                · have e1 : ((i : Int) == (s.size : Int)) = false := by simp; omega
                  have hd : decide (i = s.size ∧ k = t.size) = false := by simp [h1]
                  have HD := hid hd
                  clear h1 hd
                  go_wp2
                  go_meet
                  exact ⟨by rw [HD.out], rfl⟩
              case rest =>
                obtain ⟨rfl, rfl⟩ := hcut
                by_cases hend : i = s.size ∧ k = t.size
                · have hd : decide (i = s.size ∧ k = t.size) = true := by simp [hend]
                  rw [hd]
                  have at1 := HR.out.at_ (i' := i) (k' := k) (Nat.le_refl _) hi20 hk20 (0, 0) (by rw [if_pos rfl, if_neg (by omega)])
                  have ay := at1.1.2
                  have a2 := at1.2.2
                  have fy := HR.out.yc.frozen k
                  have b1 : (i : Int) < (s.size : Int) + 1 := by omega
                  have b2 : (k : Int) < (t.size : Int) + 1 := by omega
                  have HE := hid hend
                  clear at1 hend hd
                  go_wp2
                  go_roundg k
                  case measure => omega
                  case rel =>
                    refine ⟨by omega, rfl, hid ?_⟩
                    refine (HR.out.setY (by omega) 1).congr fun j hj => ?_
                    by_cases e : j = k
                    · subst e
                      rw [if_pos rfl, if_pos (Nat.le_refl _), if_neg (by omega), HE.out.1, HE.out.2, val_end]
                    · rw [if_neg e]
                      by_cases h : k ≤ j
                      · rw [if_pos h, if_pos (by omega)]
                      · rw [if_neg h, if_neg (by omega)]
                · have hd : decide (i = s.size ∧ k = t.size) = false := by simpa using hend
                  rw [hd]
                  have HE := hid hend
                  clear hend hd
                  go_wp2
                  go_loopg [10, 11] 4 (fun ge f x wj => ∃ n : Nat, ge + n = 4 ∧ x = .int .i64 ((n + 1 : Nat) : Int) ∧ f = .bool (!(uptoS s.data.toList t.data.toList (p : Int) (c : Int) i k n).isEmpty) ∧
                    Hid (RowL w wj s t p c B Y i g h (rowF s t p c i k (cur s t p c (uptoS s.data.toList t.data.toList (p : Int) (c : Int) i k n)))))
                  case atStart =>
                    refine ⟨0, rfl, rfl, rfl, hid (HR.out.congr fun j hj => ?_)⟩
                    show _ = rowF s t p c i k (0, 0) j
                    unfold rowF
                    by_cases e : j = k
                    · subst e
                      rw [if_pos rfl, if_neg (by omega)]
                    · rw [if_neg e]
                      by_cases h : k < j
                      · rw [if_pos h, if_pos (by omega)]
                      · rw [if_neg h, if_neg (by omega)]
                  case round =>
                    obtain ⟨n, hn, rfl, rfl, HQ⟩ := hrel
                    clear HR
                    by_cases hg0 : gk = 0
                    · obtain rfl : n = 4 := by omega
                      go_wp2
                      go_roundg k
                      case measure => omega
                      case rel =>
                        refine ⟨by omega, rfl, hid (HQ.out.congr fun j hj => ?_)⟩
                        rw [← stepsL_upto]
                        have hne : (stepsL s.data.toList t.data.toList (p : Int) (c : Int) i k).isEmpty = false := by
                          have he := HE.out
                          unfold stepsL
                          by_cases h1 : i < s.data.toList.length
                          · rw [if_pos h1]
                            simp
                          · have h2 : k < t.data.toList.length := by simp at h1 ⊢; omega
                            rw [if_pos h2]
                            simp
                        unfold cur rowF
                        rw [hne, bst_val]
                        by_cases e : j = k
                        · subst e
                          rw [if_pos rfl, if_pos (Nat.le_refl _)]; rfl
                        · rw [if_neg e]
                          by_cases h : k < j
                          · rw [if_pos h, if_pos (by omega)]
                          · rw [if_neg h, if_neg (by omega)]
                    · have hn4 : n < 4 := by omega
                      obtain ⟨di, hdi⟩ : ∃ di, diS (n + 1) = di := ⟨_, rfl⟩
                      obtain ⟨dk, hdk⟩ : ∃ dk, dkS (n + 1) = dk := ⟨_, rfl⟩
                      obtain ⟨co, hco⟩ : ∃ co, coN p c (n + 1) = co := ⟨_, rfl⟩
                      obtain ⟨ok, hok⟩ : ∃ ok, okS s.data.toList t.data.toList i k (n + 1) = ok := ⟨_, rfl⟩
                      have hstep : ∀ wx, Calls Tryd.prog 71 #[.string s, .string t, .int .i64 (i : Int), .int .i64 (k : Int), .int .i64 ((n : Int) + 1), .agg #[.int .i64 (p : Int), .int .i64 (c : Int)]] wx fun en w' =>
                          en = .returned (.tuple #[.int .i64 (co : Int), .int .i64 (di : Int), .int .i64 (dk : Int), .bool ok]) ∧ Below wx.heap.size wx w' := by
                        intro wx
                        have h := rstep_any s t i k (n + 1) (p : Int) (c : Int) wx (by omega) (by omega) hi20 hk20 (by omega)
                        rw [coS_N, hdi, hdk, hco, hok, show ((n + 1 : Nat) : Int) = (n : Int) + 1 by omega] at h
                        exact h
                      have hsp : ok = true → i + di ≤ s.size ∧ k + dk ≤ t.size ∧ 1 ≤ di + dk ∧ di ≤ 1 ∧ dk ≤ 1 ∧ co ≤ 9 := by
                        intro h
                        have h2 := okS_spec (hok.trans h) (by simpa using hi20) (by simpa using hk20) hp hc
                        rw [hdi, hdk, hco] at h2
                        simpa using h2
                      have hsg : seg s.data.toList t.data.toList (p : Int) (c : Int) i k (n + 1) = if ok then [(((n + 1 : Nat) : Int), ((i + di : Nat) : Int), ((k + dk : Nat) : Int), (co : Int))] else [] := by
                        unfold seg
                        rw [hok, hdi, hdk, coS_N, hco]
                      have c0 := HQ.out.b5.cell 0
                      have c1 := HQ.out.b5.cell 1
                      simp only [List.getElem?_toArray, List.getElem?_cons_zero, List.getElem?_cons_succ] at c0 c1
                      have hle : ((n + 1 : Nat) : Int) ≤ 4 := by omega
                      have HS := hid hstep
                      have HSP := hid hsp
                      have HSG := hid hsg
                      clear hstep hdi hdk hco hok hsp hsg
                      go_wp2_with fail
                      refine (HS.out _).mono ?_
                      rintro en w1 ⟨rfl, hb1⟩
                      have HQ1 := hid (HQ.out.next hb1)
                      clear HQ HS hb1 c0 c1
                      cases ok
                      case false =>
                        go_wp2
                        go_roundg (gk - 1)
                        case measure => omega
                        case rel =>
                          have hu : uptoS s.data.toList t.data.toList (p : Int) (c : Int) i k (n + 1) = uptoS s.data.toList t.data.toList (p : Int) (c : Int) i k n := by
                            rw [uptoS_succ, HSG.out]
                            simp
                          exact ⟨n + 1, by omega, congrArg (Value.int .i64) (by omega), by rw [hu], by rw [hu]; exact HQ1⟩
                      case true =>
                        obtain ⟨q1, q2, q3, q4, q5, q6⟩ := HSP.out rfl
                        obtain ⟨i', hi'⟩ : ∃ i', i + di = i' := ⟨_, rfl⟩
                        obtain ⟨k', hk'⟩ : ∃ k', k + dk = k' := ⟨_, rfl⟩
                        have ei : (i : Int) + (di : Int) = (i' : Int) := by omega
                        have ek : (k : Int) + (dk : Int) = (k' : Int) := by omega
                        obtain ⟨r1, r2, hr⟩ : ∃ r1 r2, val s t p c i' k' = (r1, r2) := ⟨_, _, rfl⟩
                        have br1 : r1 ≤ 360 := by have := val_cost (p := p) (c := c) (i := i') (k := k') hs ht hp; rw [hr] at this; exact this
                        have br2 : r2 ≤ 3 ^ 38 := by have := val_ways (p := p) (c := c) (i := i') (k := k') hs ht (by omega) (by omega) (by omega); rw [hr] at this; exact this
                        have hu : uptoS s.data.toList t.data.toList (p : Int) (c : Int) i k (n + 1) = uptoS s.data.toList t.data.toList (p : Int) (c : Int) i k n ++ [(((n + 1 : Nat) : Int), (i' : Int), (k' : Int), (co : Int))] := by
                          rw [uptoS_succ, HSG.out, if_pos rfl, hi', hk']
                        have hcand : cand s t p c (((n + 1 : Nat) : Int), (i' : Int), (k' : Int), (co : Int)) = (co + r1, r2) := by
                          unfold cand add1
                          simp only [Int.toNat_natCast, hr]
                        obtain ⟨pre, hpre⟩ : ∃ pre, uptoS s.data.toList t.data.toList (p : Int) (c : Int) i k n = pre := ⟨_, rfl⟩
                        have hsub : ∀ x ∈ pre, x ∈ stepsL s.data.toList t.data.toList (p : Int) (c : Int) i k := fun x hx => uptoS_sub (n := n) (by omega) (by rw [hpre]; exact hx)
                        have hplen : pre.length ≤ 3 := by rw [← hpre]; exact Nat.le_trans (uptoS_len _ _ _ _ _ _ _) (by omega)
                        rw [hpre] at hu HQ1 ⊢
                        have atr := HQ1.out.at_ (i' := i') (k' := k') (by omega) (by omega) (by omega) (r1, r2) (by
                          rw [← hr]
                          by_cases e : i' = i
                          · rw [if_pos e, e]
                            unfold rowF
                            rw [if_neg (by omega), if_pos (by omega)]
                          · rw [if_neg e])
                        obtain ⟨⟨rb, ry⟩, rc1, rc2⟩ := atr
                        dsimp only at rc1 rc2
                        have fb := HQ1.out.bc.frozen k
                        have fy := HQ1.out.yc.frozen k
                        have gh := HQ1.out.gh
                        have gh2 := gh.symm
                        have b1 : (i : Int) < (s.size : Int) + 1 := by omega
                        have b2 : (k : Int) < (t.size : Int) + 1 := by omega
                        have b3 : (i' : Int) < (s.size : Int) + 1 := by omega
                        have b4 : (k' : Int) < (t.size : Int) + 1 := by omega
                        have HU := hid hu
                        have HC := hid hcand
                        clear hu hcand HSP HSG hi' hk' hpre hr
                        cases pre with
                        | nil =>
                          obtain ⟨⟨ab, ay⟩, a1, a2⟩ := HQ1.out.at_ (i' := i) (k' := k) (Nat.le_refl _) hi20 hk20 (0, 0) (by rw [if_pos rfl]; unfold rowF; rw [if_pos rfl]; rfl)
                          dsimp only at a1 a2
                          clear hsub hplen br2
                          go_wp2
                          go_region
                          go_wp2
                          go_roundg (gk - 1)
                          case measure => omega
                          case rel =>
                            refine ⟨n + 1, by omega, congrArg (Value.int .i64) (by omega), by rw [HU.out]; rfl, hid ?_⟩
                            rw [HU.out]
                            have hcu : cur s t p c ([] ++ [(((n + 1 : Nat) : Int), (i' : Int), (k' : Int), (co : Int))]) = (co + r1, r2) := by
                              unfold cur
                              exact HC.out
                            rw [hcu, show (co : Int) + (r1 : Int) = ((co + r1 : Nat) : Int) by omega]
                            first | exact HQ1.out.both (by omega) (co + r1, r2) | exact HQ1.out.both' (by omega) (co + r1, r2)
                        | cons x0 pre =>
                          have hbnd := bst_bound (f := cand s t p c) (A := 369) (B := 3 ^ 38) (by decide) (x0 :: pre) (fun y hy => cand_bound hs ht hp hc hi20 hk20 (hsub y hy))
                          have hsn : cur s t p c (x0 :: pre ++ [(((n + 1 : Nat) : Int), (i' : Int), (k' : Int), (co : Int))]) = mrg (bst (cand s t p c) (x0 :: pre)) (co + r1, r2) := by
                            unfold cur
                            rw [← HC.out, ← bst_snoc _ _ _ (by simp)]
                            rfl
                          have hcu : cur s t p c (x0 :: pre) = bst (cand s t p c) (x0 :: pre) := rfl
                          rw [hcu] at HQ1
                          obtain ⟨⟨ab, ay⟩, a1, a2⟩ := HQ1.out.at_ (i' := i) (k' := k) (Nat.le_refl _) hi20 hk20 (bst (cand s t p c) (x0 :: pre)) (by rw [if_pos rfl]; unfold rowF; rw [if_pos rfl])
                          have HSN := hid hsn
                          clear hsn hcu hsub
                          generalize bst (cand s t p c) (x0 :: pre) = b at a1 a2 hbnd HSN HQ1
                          obtain ⟨v1, v2⟩ := b
                          dsimp only at a1 a2 hbnd
                          have hv2 : (v2 : Int) + (r2 : Int) < 9223372036854775808 := by
                            have h1 : ((x0 :: pre).length + 1) * 3 ^ 38 ≤ 4 * 3 ^ 38 := Nat.mul_le_mul_right _ (by omega)
                            have h2 : (4 : Nat) * 3 ^ 38 + 3 ^ 38 < 9223372036854775808 := by decide
                            have h3 := hbnd.2
                            omega
                          have hv1 := hbnd.1
                          clear br2 hbnd hplen
                          rcases Nat.lt_trichotomy (co + r1) v1 with hlt | hlt | hlt
                          · have hl : (co : Int) + (r1 : Int) < (v1 : Int) := by omega
                            go_wp2
                            go_region
                            go_wp2
                            go_roundg (gk - 1)
                            case measure => omega
                            case rel =>
                              refine ⟨n + 1, by omega, congrArg (Value.int .i64) (by omega), by rw [HU.out]; rfl, hid ?_⟩
                              rw [HU.out]
                              rw [HSN.out, mrg_lt hlt, show (co : Int) + (r1 : Int) = ((co + r1 : Nat) : Int) by omega]
                              first | exact HQ1.out.both (by omega) (co + r1, r2) | exact HQ1.out.both' (by omega) (co + r1, r2)
                          · have hl : decide ((co : Int) + (r1 : Int) < (v1 : Int)) = false := by simp; omega
                            have hl2 : (co : Int) + (r1 : Int) = (v1 : Int) := by omega
                            go_wp2
                            go_region
                            go_wp2
                            go_roundg (gk - 1)
                            case measure => omega
                            case rel =>
                              refine ⟨n + 1, by omega, congrArg (Value.int .i64) (by omega), by rw [HU.out]; rfl, hid ?_⟩
                              rw [HU.out]
                              rw [HSN.out, hlt, mrg_eq, show (v2 : Int) + (r2 : Int) = ((v2 + r2 : Nat) : Int) by omega]
                              exact HQ1.out.ways (by omega) (v2 + r2)
                          · have hl : decide ((co : Int) + (r1 : Int) < (v1 : Int)) = false := by simp; omega
                            have hl2 : ((co : Int) + (r1 : Int) == (v1 : Int)) = false := by simp; omega
                            go_wp2
                            go_roundg (gk - 1)
                            case measure => omega
                            case rel =>
                              refine ⟨n + 1, by omega, congrArg (Value.int .i64) (by omega), by rw [HU.out]; rfl, hid ?_⟩
                              rw [HU.out]
                              rw [HSN.out, mrg_gt hlt]
                              exact HQ1.out
end Go.Proofs.YtmhlgnhfbickdaaDoor
