/-
  The lengths of the longest common rows from each place on: the program's table. Conditions: the prints are short.
-/
import Derived.Test.YtmhlgnhfbickdaaDoorP8
import Derived.Test.YtmhlgnhfbickdaaDoorMath8
namespace Go.Proofs.YtmhlgnhfbickdaaDoor
set_option linter.unusedVariables false
set_option linter.unusedSimpArgs false
open Go.RowKit Go.Shelf

/-- what stands ahead of row j -/
structure OutC (w wr : World) (s t : ByteArray) (p c j : Nat) (g : Nat → Nat) : Prop where
  pb : Blk wr w.heap.size 72 #[.string s, .string t, .int .i64 (p : Int), .int .i64 (c : Int)]
  bo : Blk wr (w.heap.size + 1) 25 (rowsA (s.size + 1) (t.size + 1) j g)
  br : ∀ i, j ≤ i → i ≤ s.size → Blk wr (g i) 3 (intsA (t.size + 1) fun k => lcA s.data.toList t.data.toList i k)
  bel : Below w.heap.size w wr
/-- what stands within row i: its numbers as f tells -/
structure RowC (w wr : World) (s t : ByteArray) (p c i : Nat) (g : Nat → Nat) (f : Nat → Nat) : Prop where
  pb : Blk wr w.heap.size 72 #[.string s, .string t, .int .i64 (p : Int), .int .i64 (c : Int)]
  bo : Blk wr (w.heap.size + 1) 25 (rowsA (s.size + 1) (t.size + 1) i g)
  br : ∀ i', i < i' → i' ≤ s.size → Blk wr (g i') 3 (intsA (t.size + 1) fun k => lcA s.data.toList t.data.toList i' k) ∧ g i' ≠ g i
  bc : Blk wr (g i) 3 (intsA (t.size + 1) f)
  li : w.heap.size < g i
  bel : Below w.heap.size w wr
section
variable {w wr wr' : World} {s t : ByteArray} {p c i k : Nat} {g : Nat → Nat} {f f' : Nat → Nat}
theorem RowC.next (H : RowC w wr s t p c i g f) (hb : Below wr.heap.size wr wr') : RowC w wr' s t p c i g f :=
  ⟨H.pb.below' hb, H.bo.below' hb, fun i' h1 h2 => ⟨(H.br i' h1 h2).1.below' hb, (H.br i' h1 h2).2⟩, H.bc.below' hb, H.li, btr H.bel hb H.bel.size⟩
theorem RowC.congr (H : RowC w wr s t p c i g f) (e : ∀ k, k < t.size + 1 → f k = f' k) : RowC w wr s t p c i g f' :=
  { H with bc := by rw [← intsA_congr e]; exact H.bc }
theorem RowC.set (H : RowC w wr s t p c i g f) (hk : k < t.size + 1) (x : Nat) : RowC w (wr.setCell ⟨g i, k, none⟩ (.int .i64 (x : Int))) s t p c i g (fun j => if j = k then x else f j) := by
  have n5 : w.heap.size ≠ g i := Nat.ne_of_lt H.li
  have nb : w.heap.size + 1 ≠ g i := H.bo.ne_ H.bc (by decide)
  refine ⟨H.pb.far (p := ⟨g i, k, none⟩) n5 _, H.bo.far (p := ⟨g i, k, none⟩) nb _, fun i' h1 h2 => ⟨(H.br i' h1 h2).1.far (p := ⟨g i, k, none⟩) (H.br i' h1 h2).2 _, (H.br i' h1 h2).2⟩, ?_, H.li, H.bel.setCell (p := ⟨g i, k, none⟩) (Nat.le_of_lt H.li) _⟩
  have h1 := H.bc.set_ k (.int .i64 (x : Int))
  rw [intsA_set hk] at h1
  exact h1
theorem RowC.at_ (H : RowC w wr s t p c i g f) {i' k' : Nat} (hi : i ≤ i') (hi2 : i' ≤ s.size) (hk : k' ≤ t.size) (v : Nat) (hv : (if i' = i then f k' else lcA s.data.toList t.data.toList i' k') = v) :
    wr.cell? ⟨w.heap.size + 1, i', none⟩ = some (.slice (some ⟨g i', 0, none⟩) (t.size + 1) (t.size + 1)) ∧ wr.cell? ⟨g i', k', none⟩ = some (.int .i64 (v : Int)) := by
  refine ⟨(H.bo.cell i').trans ((rowsA_get (by omega)).trans (by rw [if_pos hi])), ?_⟩
  by_cases e : i' = i
  · subst e
    rw [if_pos rfl] at hv
    subst hv
    exact (H.bc.cell k').trans (intsA_get (by omega))
  · rw [if_neg e] at hv
    subst hv
    exact ((H.br i' (by omega) hi2).1.cell k').trans (intsA_get (by omega))
theorem RowC.out (H : RowC w wr s t p c i g f) (e : ∀ k, k < t.size + 1 → f k = lcA s.data.toList t.data.toList i k) : OutC w wr s t p c i g := by
  refine ⟨H.pb, H.bo, fun i' h1 h2 => ?_, H.bel⟩
  by_cases hi : i' = i
  · subst hi
    rw [← intsA_congr e]
    exact H.bc
  · exact (H.br i' (by omega) h2).1
/-- a new row: a new block -/
theorem OutC.row (H : OutC w wr s t p c (i + 1) g) (hi : i ≤ s.size) :
    RowC w ((wr.setCell ⟨w.heap.size + 1, i, none⟩ (.slice (some ⟨wr.heap.size, 0, none⟩) (t.size + 1) (t.size + 1))).alloc (.cells (intsA (t.size + 1) fun _ => 0) 3)) s t p c i (fun j => if j = i then wr.heap.size else g j) (fun _ => 0) := by
  have lB := H.bo.lt
  have n5 : w.heap.size ≠ w.heap.size + 1 := by omega
  have sz : (wr.setCell ⟨w.heap.size + 1, i, none⟩ (.slice (some ⟨wr.heap.size, 0, none⟩) (t.size + 1) (t.size + 1))).heap.size = wr.heap.size := by simp [World.setCell]
  refine ⟨(H.pb.far (p := ⟨w.heap.size + 1, i, none⟩) n5 _).alloc _, ?_, fun i' h1 h2 => ?_, ?_, ?_, ?_⟩
  · have h1 := H.bo.set_ i (.slice (some ⟨wr.heap.size, 0, none⟩) (t.size + 1) (t.size + 1))
    rw [rowsA_set _ (by omega)] at h1
    exact h1.alloc _
  · have hne : ¬ i' = i := by omega
    have hbr := H.br i' (by omega) h2
    have := hbr.lt
    simp only [if_neg hne, if_true]
    exact ⟨(hbr.far (p := ⟨w.heap.size + 1, i, none⟩) (hbr.ne_ H.bo (by decide)) _).alloc _, by omega⟩
  · simp only [if_true]
    have h1 := Blk.new (wr.setCell ⟨w.heap.size + 1, i, none⟩ (.slice (some ⟨wr.heap.size, 0, none⟩) (t.size + 1) (t.size + 1))) 3 (intsA (t.size + 1) fun _ => 0)
    rw [sz] at h1
    exact h1
  · simp only [if_true]
    omega
  · exact (H.bel.setCell (p := ⟨w.heap.size + 1, i, none⟩) (by show w.heap.size ≤ w.heap.size + 1; omega) _).alloc (by rw [sz]; exact H.bel.size) _
end
theorem outC_new (w : World) (s t : ByteArray) (p c : Nat) :
    OutC w ((w.alloc (.cells #[.string s, .string t, .int .i64 (p : Int), .int .i64 (c : Int)] 72)).alloc (.cells (rowsA (s.size + 1) (t.size + 1) (s.size + 1) fun _ => 0) 25)) s t p c (s.size + 1) (fun _ => 0) := by
  have h1 := Blk.new (w.alloc (.cells #[.string s, .string t, .int .i64 (p : Int), .int .i64 (c : Int)] 72)) 25 (rowsA (s.size + 1) (t.size + 1) (s.size + 1) fun _ => 0)
  rw [show (w.alloc (.cells #[.string s, .string t, .int .i64 (p : Int), .int .i64 (c : Int)] 72)).heap.size = w.heap.size + 1 by simp] at h1
  exact ⟨(Blk.new w 72 _).alloc _, h1, fun i h1 h2 => by omega, (box_bel w _).trans ((box_bel _ _).mono (by simp))⟩
/-- what common answers -/
def ComR (w : World) (s t : ByteArray) (e : Ending) (w' : World) : Prop :=
  ∃ B g, e = .returned (.slice (some ⟨B, 0, none⟩) (s.size + 1) (s.size + 1)) ∧ Blk w' B 25 (rowsA (s.size + 1) (t.size + 1) 0 g) ∧ (∀ i, i ≤ s.size → Blk w' (g i) 3 (intsA (t.size + 1) fun k => lcA s.data.toList t.data.toList i k)) ∧ Below w.heap.size w w'
set_option maxRecDepth 100000 in
set_option maxHeartbeats 4000000 in
/-- (pair).common -/
theorem common_any (s t : ByteArray) (p c : Nat) (w : World) (hs : s.size ≤ 20) (ht : t.size ≤ 20) :
    Calls Tryd.prog 74 #[.agg #[.string s, .string t, .int .i64 (p : Int), .int .i64 (c : Int)]] w (ComR w s t) := by
  have HO := hid (outC_new w s t p c)
  have m1 : s.data.toList.length = s.size := by simp
  have m2 : t.data.toList.length = t.size := by simp
  have HM := hid (And.intro m1 m2)
  clear m1 m2
  have hmk := run_mkouter (s.size + 1) (t.size + 1) (fun _ => 0) (by omega)
  rw [show ((s.size + 1 : Nat) : Int) = (s.size : Int) + 1 by omega] at hmk
  go_enter Tryd.func74, Tryd.ntmps74
  go_wp2
  clear hmk
  go_loopg [4] (s.size + 1) (fun gi x wr => ∃ g, gi ≤ s.size + 1 ∧ x = .int .i64 ((gi : Int) - 1) ∧ Hid (OutC w wr s t p c gi g))
  case atStart => exact ⟨_, Nat.le_refl _, by rw [show (((s.size + 1 : Nat) : Int) - 1) = (s.size : Int) by omega], HO⟩
  case round =>
    obtain ⟨g, hgi, rfl, HL⟩ := hrel
    clear HO
    by_cases hg0 : gk = 0
    · subst hg0
      go_wp2
      refine bodyPost_ret (v := .slice (some ⟨w.heap.size + 1, 0, none⟩) (s.size + 1) (s.size + 1)) (by simp [results, Tryd.results74, go_sem]) rfl ⟨_, g, rfl, HL.out.bo, fun i hi => HL.out.br i (Nat.zero_le _) hi, HL.out.bel⟩
    · obtain ⟨i, rfl⟩ : ∃ i, gk = i + 1 := ⟨gk - 1, by omega⟩
      rw [show ((i + 1 : Nat) : Int) - 1 = (i : Int) by omega]
      have hi20 : i ≤ s.size := by omega
      have hmk := run_mkints (t.size + 1) (by omega)
      rw [show ((t.size + 1 : Nat) : Int) = (t.size : Int) + 1 by omega] at hmk
      have co := (HL.out.bo.cell i).trans (rowsA_get (by omega))
      rw [if_neg (by omega)] at co
      have fo := HL.out.bo.frozen i
      have lB := HL.out.bo.lt
      have d0 := HL.out.pb.cell 0
      have d1 := HL.out.pb.cell 1
      simp only [List.getElem?_toArray, List.getElem?_cons_zero, List.getElem?_cons_succ] at d0 d1
      have hlti : (i : Int) < (s.size : Int) + 1 := by omega
      have HI := hid (HL.out.row hi20)
      go_wp2
      generalize (wr.setCell ⟨w.heap.size + 1, i, none⟩ (.slice (some ⟨wr.heap.size, 0, none⟩) (t.size + 1) (t.size + 1))).alloc (.cells (intsA (t.size + 1) fun _ => 0) 3) = w2 at HI ⊢
      generalize (fun j => if j = i then wr.heap.size else g j) = g2 at HI
      clear HL hmk co fo lB d0 d1
      go_loopg [31] (t.size + 1) (fun gj x wi => ∃ q : Nat, q + gj = t.size + 1 ∧ x = .int .i64 (q : Int) ∧ Hid (RowC w wi s t p c i g2 (fun j => if gj ≤ j then lcA s.data.toList t.data.toList i j else 0)))
      case atStart => exact ⟨0, by omega, rfl, hid (HI.out.congr fun k hk => by rw [if_neg (by omega)])⟩
      case round =>
        obtain ⟨q, hq, rfl, HR⟩ := hrel
        clear HI
        by_cases hk0 : gk = 0
        · subst hk0
          obtain rfl : q = t.size + 1 := by omega
          go_wp2
          go_roundg i
          case measure => omega
          case rel => exact ⟨g2, by omega, rfl, hid (HR.out.out fun k hk => if_pos (Nat.zero_le _))⟩
        · obtain ⟨k, rfl⟩ : ∃ k, gk = k + 1 := ⟨gk - 1, by omega⟩
          have hk20 : k ≤ t.size := by omega
          have e5 : (t.size : Int) - (q : Int) = (k : Int) := by omega
          have hq1 : (q : Int) < (t.size : Int) + 1 := by omega
          have d0 := HR.out.pb.cell 0
          have d1 := HR.out.pb.cell 1
          simp only [List.getElem?_toArray, List.getElem?_cons_zero, List.getElem?_cons_succ] at d0 d1
          go_upto_region 11 with fail
          go_cut [62] from 63 to 74 (fun v wd => v = .bool (decide (i = s.size ∨ k = t.size)) ∧ wd = wr)
          case first =>
            by_cases h1 : i = s.size
            · have e1 : (i : Int) = (s.size : Int) := by omega
              have hd : decide (i = s.size ∨ k = t.size) = true := by simp [h1]
              have HD := hid hd
              clear h1 hd
              go_wp2
              go_meet
              exact ⟨by rw [HD.out], rfl⟩
            · have e1 : ((i : Int) == (s.size : Int)) = false := by simp; omega
              by_cases h2 : k = t.size
              · have e2 : (k : Int) = (t.size : Int) := by omega
                have hd : decide (i = s.size ∨ k = t.size) = true := by simp [h2]
                have HD := hid hd
                clear h1 h2 hd
                go_wp2
                go_meet
                exact ⟨by rw [HD.out], rfl⟩
              · have e2 : ((k : Int) == (t.size : Int)) = false := by simp; omega
                have hd : decide (i = s.size ∨ k = t.size) = false := by simp [h1, h2]
                have HD := hid hd
                clear h1 h2 hd
                go_wp2
                go_meet
                exact ⟨by rw [HD.out], rfl⟩
          case rest =>
            obtain ⟨rfl, rfl⟩ := hcut
            have b1 : (i : Int) < (s.size : Int) + 1 := by omega
            have b2 : (k : Int) < (t.size : Int) + 1 := by omega
            by_cases hend : i = s.size ∨ k = t.size
            · have HE : Hid (lcA s.data.toList t.data.toList i k = 0) := hid (lcA_end (by rw [HM.out.1, HM.out.2]; omega))
              rw [decide_eq_true hend]
              clear hend
              go_wp2
              go_roundg k
              case measure => omega
              case rel =>
                refine ⟨q + 1, by omega, by go_num, hid (HR.out.congr fun j hj => ?_)⟩
                by_cases e : j = k
                · subst e
                  rw [if_pos (Nat.le_refl _), if_neg (by omega), HE.out]
                · by_cases h : k ≤ j
                  · rw [if_pos h, if_pos (by omega)]
                  · rw [if_neg h, if_neg (by omega)]
            · rw [decide_eq_false hend]
              have hi1 : i < s.size := by omega
              have hk1 : k < t.size := by omega
              have hgi : s.data.toList[i]? = some s[i] := by rw [List.getElem?_eq_getElem (by simpa using hi1)]; rfl
              have hgk : t.data.toList[k]? = some t[k] := by rw [List.getElem?_eq_getElem (by simpa using hk1)]; rfl
              have b3 : ((i : Int) + 1) < (s.size : Int) + 1 := by omega
              have b4 : ((k : Int) + 1) < (t.size : Int) + 1 := by omega
              have f0 := HR.out.bc.frozen k
              obtain ⟨a0, a00⟩ := HR.out.at_ (i' := i) (k' := k) (Nat.le_refl _) hi20 hk20 0 (by rw [if_pos rfl, if_neg (by omega)])
              obtain ⟨r1, hr1⟩ : ∃ r1, lcA s.data.toList t.data.toList (i + 1) (k + 1) = r1 := ⟨_, rfl⟩
              obtain ⟨r2, hr2⟩ : ∃ r2, lcA s.data.toList t.data.toList (i + 1) k = r2 := ⟨_, rfl⟩
              obtain ⟨r3, hr3⟩ : ∃ r3, lcA s.data.toList t.data.toList i (k + 1) = r3 := ⟨_, rfl⟩
              obtain ⟨a1, a11⟩ := HR.out.at_ (i' := i + 1) (k' := k + 1) (by omega) (by omega) (by omega) r1 (by rw [if_neg (by omega), hr1])
              obtain ⟨_, a12⟩ := HR.out.at_ (i' := i + 1) (k' := k) (by omega) (by omega) (by omega) r2 (by rw [if_neg (by omega), hr2])
              obtain ⟨_, a13⟩ := HR.out.at_ (i' := i) (k' := k + 1) (by omega) (by omega) (by omega) r3 (by rw [if_pos rfl, if_pos (by omega), hr3])
              have q1 : r1 ≤ 40 := by rw [← hr1]; have := lcA_len s.data.toList t.data.toList (i + 1) (k + 1); rw [HM.out.1, HM.out.2] at this; omega
              have q2 : r2 ≤ 40 := by rw [← hr2]; have := lcA_len s.data.toList t.data.toList (i + 1) k; rw [HM.out.1, HM.out.2] at this; omega
              have q3 : r3 ≤ 40 := by rw [← hr3]; have := lcA_len s.data.toList t.data.toList i (k + 1); rw [HM.out.1, HM.out.2] at this; omega
              have HRR := hid (And.intro hr1 (And.intro hr2 hr3))
              clear hend hr1 hr2 hr3
              by_cases he : s[i] = t[k]
              · have HX := hid (lcA_same hgi (by rw [hgk, he]))
                have d3 : ((s[i].toNat : Int) == (t[k].toNat : Int)) = true := by rw [he]; simp
                clear he hgi hgk
                go_wp2
                go_quiet (fail)
                go_wp2
                go_region
                go_wp2
                rw [show (1 : Int) + (r1 : Int) = ((1 + r1 : Nat) : Int) by omega]
                go_roundg k
                case measure => omega
                case rel =>
                  refine ⟨q + 1, by omega, by go_num, hid (((HR.out.next (bdr _ (nq + 1))).set (by omega) (1 + r1)).congr fun j hj => ?_)⟩
                  by_cases e : j = k
                  · subst e
                    rw [if_pos rfl, if_pos (Nat.le_refl _), HX.out, HRR.out.1]
                  · rw [if_neg e]
                    by_cases h : k ≤ j
                    · rw [if_pos h, if_pos (by omega)]
                    · rw [if_neg h, if_neg (by omega)]
              · have HX := hid (lcA_other hgi hgk he)
                have d3 : ((s[i].toNat : Int) == (t[k].toNat : Int)) = false := by
                  simp only [beq_eq_false_iff_ne, ne_eq]
                  exact fun h => he (UInt8.toNat_inj.1 (by omega))
                clear he hgi hgk
                go_wp2
                go_quiet (fail)
                go_wp2
                go_region
                go_wp2
                rw [show max (r2 : Int) (r3 : Int) = ((max r2 r3 : Nat) : Int) by omega]
                go_roundg k
                case measure => omega
                case rel =>
                  refine ⟨q + 1, by omega, by go_num, hid (((HR.out.next (bdr _ (nq + 1))).set (by omega) (max r2 r3)).congr fun j hj => ?_)⟩
                  by_cases e : j = k
                  · subst e
                    rw [if_pos rfl, if_pos (Nat.le_refl _), HX.out, HRR.out.2.1, HRR.out.2.2]
                  · rw [if_neg e]
                    by_cases h : k ≤ j
                    · rw [if_pos h, if_pos (by omega)]
                    · rw [if_neg h, if_neg (by omega)]
end Go.Proofs.YtmhlgnhfbickdaaDoor
