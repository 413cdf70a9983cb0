/-
  Edits of the reference. Conditions: the lists lie in memory.
-/
import Derived.Test.YtmhlgnhfbickdaaDoorP13
import Derived.Test.YtmhlgnhfbickdaaDoorMath4
import Derived.Deep.Cut
import Derived.Deep.CutRange
namespace Go.Proofs.YtmhlgnhfbickdaaDoor
set_option linter.unusedVariables false
set_option linter.unusedSimpArgs false
open Go.RowKit Go.Shelf

/-! ### Edits of the reference -/
/-- what stands while edits are gathered -/
structure EdR (w wr : World) (s t : ByteArray) (p c B N0 : Nat) (g : Nat → Nat) (v : Value) (pre : List Int) : Prop where
  b5 : Blk wr w.heap.size 24 #[.int .i64 (p : Int), .int .i64 (c : Int)]
  bo : Blk wr B 25 (rowsA (s.size + 1) (t.size + 1) 0 g)
  br : ∀ i, i ≤ s.size → Blk wr (g i) 3 (intsA (t.size + 1) fun k => (val s t p c i k).1)
  lt : w.heap.size < N0 ∧ B < N0 ∧ ∀ i, i ≤ s.size → g i < N0
  own : wr.ownsRow N0 3 1 v pre.length (pre.map (Value.int .i64))
  sz : N0 ≤ wr.heap.size
  bel : Below w.heap.size w wr
section
variable {w wr wr' w1 : World} {s t : ByteArray} {p c B N0 i k : Nat} {g : Nat → Nat} {v v' : Value} {pre : List Int}
theorem EdR.next (h : EdR w wr s t p c B N0 g v pre) (hb : Below wr.heap.size wr wr') : EdR w wr' s t p c B N0 g v pre :=
  ⟨h.b5.below' hb, h.bo.below' hb, fun i hi => (h.br i hi).below' hb, h.lt, own_bel h.own hb, Nat.le_trans h.sz hb.size, btr h.bel hb h.bel.size⟩
theorem EdR.app {o : Obj} {e : Int} (h : EdR w wr s t p c B N0 g v pre) (hown' : w1.ownsRow N0 3 1 v' (pre.length + 1) (pre.map (Value.int .i64) ++ [.int .i64 e])) (hgrow : (wr.alloc o).grownBy w1 v.ownBlock) :
    EdR w w1 s t p c B N0 g v' (pre ++ [e]) := by
  have hl := h.lt
  have hs := h.sz
  refine ⟨own_far (h.own.alloc o) hgrow (h.b5.alloc o) hl.1, own_far (h.own.alloc o) hgrow (h.bo.alloc o) hl.2.1, fun i hi => own_far (h.own.alloc o) hgrow ((h.br i hi).alloc o) (hl.2.2 i hi), hl, ?_, ?_, own_below (h.own.alloc o) hgrow (h.bel.alloc h.bel.size o) (Nat.le_of_lt hl.1) (by simp; omega)⟩
  · rw [List.length_append, List.map_append]
    exact hown'
  · have := hgrow.size
    simp at this
    omega
/-- the numbers of a place -/
theorem EdR.at_ (h : EdR w wr s t p c B N0 g v pre) (hi : i ≤ s.size) (hk : k ≤ t.size) :
    wr.cell? ⟨B, i, none⟩ = some (.slice (some ⟨g i, 0, none⟩) (t.size + 1) (t.size + 1)) ∧ wr.cell? ⟨g i, k, none⟩ = some (.int .i64 ((val s t p c i k).1 : Int)) :=
  ⟨(h.bo.cell i).trans ((rowsA_get (by omega)).trans (by rw [if_pos (Nat.zero_le _)])), ((h.br i hi).cell k).trans (intsA_get (by omega))⟩
end
/-- what Edits answers -/
def EditsR (w : World) (s t : ByteArray) (p c : Int) (e : Ending) (w' : World) : Prop :=
  ∃ A n cap, e = .returned (.tuple #[.slice A n cap, .int .i64 (codeP s t p c)]) ∧ IntsV w' (.slice A n cap) (if codeP s t p c = 0 then edt p.toNat c.toNat s.data.toList t.data.toList else []) ∧ Below w.heap.size w w'

/-- one step of the reference, all that its walk wants -/
theorem redit_step {s t : ByteArray} {p c i k n : Nat} (hs : s.size ≤ 20) (ht : t.size ≤ 20) (hp : p ≤ 9) (hc : c ≤ 9) (hi : i ≤ s.size) (hk : k ≤ t.size) (hn : n < 4) :
    ∃ (di dk co : Nat) (ok : Bool) (v1 r1 : Nat), (∀ wx, Calls Tryd.prog 71 #[.string s, .string t, .int .i64 (i : Int), .int .i64 (k : Int), .int .i64 ((n : Int) + 1), .agg #[.int .i64 (p : Int), .int .i64 (c : Int)]] wx fun en w' =>
        en = .returned (.tuple #[.int .i64 (co : Int), .int .i64 (di : Int), .int .i64 (dk : Int), .bool ok]) ∧ Below wx.heap.size wx w') ∧
      (ok = true → (i + di ≤ s.size ∧ k + dk ≤ t.size ∧ 1 ≤ di + dk ∧ di ≤ 1 ∧ dk ≤ 1 ∧ co ≤ 9 ∧ r1 ≤ 360) ∧ (val s t p c i k).1 = v1 ∧ (val s t p c (i + di) (k + dk)).1 = r1) ∧
      (ok = false ∨ r1 + co ≠ v1 → isBest p c ((n + 1 : Nat) : Int) (s.data.toList.drop i) (t.data.toList.drop k) = false) ∧
      (ok = true → r1 + co = v1 → (∀ e', 1 ≤ e' → e' ≤ n → isBest p c (e' : Int) (s.data.toList.drop i) (t.data.toList.drop k) = false) → edAt s t p c i k = ((n + 1 : Nat) : Int) :: edAt s t p c (i + di) (k + dk)) := by
  refine ⟨diS (n + 1), dkS (n + 1), coN p c (n + 1), okS s.data.toList t.data.toList i k (n + 1), (val s t p c i k).1, (val s t p c (i + diS (n + 1)) (k + dkS (n + 1))).1, fun wx => ?_, fun h => ?_, fun h => ?_, fun h1 h2 h3 => ?_⟩
  · have h := rstep_any s t i k (n + 1) (p : Int) (c : Int) wx (by omega) (by omega) hi hk (by omega)
    rw [coS_N, show ((n + 1 : Nat) : Int) = (n : Int) + 1 by omega] at h
    exact h
  · have h2 := okS_spec h (by simpa using hi) (by simpa using hk) hp hc
    have h3 := val_cost (p := p) (c := c) (i := i + diS (n + 1)) (k := k + dkS (n + 1)) hs ht hp
    simp only [Array.length_toList, ByteArray.size_data] at h2
    exact ⟨⟨h2.1, h2.2.1, h2.2.2.1, h2.2.2.2.1, h2.2.2.2.2.1, h2.2.2.2.2.2, h3⟩, rfl, rfl⟩
  · rw [best_at (by omega)]
    rcases h with h | h
    · rw [h]; rfl
    · unfold bestS
      simp only [Int.toNat_natCast]
      rw [decide_eq_false h, Bool.and_false]
  · refine edAt_step (by omega) h1 ?_ fun e' g1 g2 => h3 e' g1 (by omega)
    unfold bestS
    simp only [Int.toNat_natCast]
    exact decide_eq_true h2
set_option maxRecDepth 100000 in
set_option maxHeartbeats 4000000 in
/-- skimmerref09.Edits -/
theorem rEdits_any (s t : ByteArray) (p c : Int) (w : World) (hs : s.size ≤ 9223372036854775807) (ht : t.size ≤ 9223372036854775807) :
    Calls Tryd.prog 36 #[.string s, .string t, .agg #[.int .i64 p, .int .i64 c]] w (EditsR w s t p c) := by
  have hb0 := box_bel w (.cells #[.int .i64 p, .int .i64 c] 24)
  obtain ⟨i0, hi, hz0, hz1, hz2⟩ := info_parts info3
  go_enter Tryd.func36, Tryd.ntmps36
  go_wp2_with fail
  refine (asked_any s t p c _ hs ht).mono ?_
  rintro e w1 ⟨rfl, hb⟩
  have hb1 := box_trans _ hb
  have hB0 := (Blk.new w 24 #[.int .i64 p, .int .i64 c]).below' hb
  have c0 := hB0.cell 0
  have c1 := hB0.cell 1
  simp only [List.getElem?_toArray, List.getElem?_cons_zero, List.getElem?_cons_succ] at c0 c1
  clear hb hb0
  by_cases hz : codeP s t p c = 0
  · have h20 := codeP_zero hz
    have HZ := hid hz
    rw [hz]
    clear hz
    obtain ⟨p', rfl⟩ : ∃ p' : Nat, p = (p' : Int) := ⟨p.toNat, by omega⟩
    obtain ⟨c', rfl⟩ : ∃ c' : Nat, c = (c' : Int) := ⟨c.toNat, by omega⟩
    have HB := hid hb1
    have HB0 := hid hB0
    clear hb1 hB0
    obtain ⟨h20s, h20t, hpp, hcc⟩ := h20
    go_wp2_with fail
    refine (left_any s t p' c' _ h20s h20t (by omega) (by omega)).mono ?_
    rintro e w2 ⟨B, Y, g, h, rfl, HL⟩
    have HE : Hid (EdR w w2 s t p' c' B w2.heap.size g (.slice none 0 0) []) := hid ⟨HB0.out.below' HL.bel, HL.bo, fun i hi => HL.br i (Nat.zero_le _) hi, ⟨(HB0.out.below' HL.bel).lt, HL.bo.lt, fun i hi => (HL.br i (Nat.zero_le _) hi).lt⟩, World.ownsRow_nil _ _ _ _, Nat.le_refl _, btr HB.out HL.bel HB.out.size⟩
    obtain ⟨N0, hN0⟩ : ∃ N0, w2.heap.size = N0 := ⟨_, rfl⟩
    rw [hN0] at HE
    clear HL hN0 HB HB0 c0 c1
    go_wp2_with fail
    go_loopg [11, 12, 13] (s.size + t.size) (fun gn v x y wr => ∃ (i k : Nat) (pre : List Int), i ≤ s.size ∧ k ≤ t.size ∧ (s.size - i) + (t.size - k) ≤ gn ∧ x = .int .i64 (i : Int) ∧ y = .int .i64 (k : Int) ∧ Hid (edt p' c' s.data.toList t.data.toList = pre ++ edAt s t p' c' i k) ∧ Hid (EdR w wr s t p' c' B N0 g v pre))
    case atStart => exact ⟨0, 0, [], by omega, by omega, by omega, rfl, rfl, hid rfl, HE⟩
    case round =>
      obtain ⟨i, k, pre, hi1, hk1, hgn, rfl, rfl, HP, HR⟩ := hrel
      clear HE
      obtain ⟨A, cap, rfl⟩ := own_shape HR.out.own
      by_cases hend : i < s.size ∨ k < t.size
      · have hlen : pre.length ≤ 40 := by
          have h1 := edt_len (p := p') (c := c') s.data.toList t.data.toList
          rw [HP.out, List.length_append] at h1
          simp at h1
          omega
        have HH := hid hend
        go_upto_region 7 with fail
        go_cut [42] from 33 to 42 (fun v wd => v = .bool true ∧ wd = wr)
        case first =>
          by_cases hil : i < s.size
          · clear hend
            go_wp2
            go_meet
            exact ⟨rfl, rfl⟩
          · have hkl : k < t.size := by omega
            clear hend
            go_wp2
            go_meet
            exact ⟨rfl, rfl⟩
        case rest =>
          obtain ⟨rfl, rfl⟩ := hcut
          clear hend
          go_wp2_with fail
          go_loopg [11, 12, 13, 14] 4 (fun ge ov xi xk x wj => ∃ n : Nat, ge + n = 4 ∧ ov = .slice A pre.length cap ∧ xi = .int .i64 (i : Int) ∧ xk = .int .i64 (k : Int) ∧ x = .int .i64 ((n + 1 : Nat) : Int) ∧ Hid (∀ e', 1 ≤ e' → e' ≤ n → isBest p' c' (e' : Int) (s.data.toList.drop i) (t.data.toList.drop k) = false) ∧ Hid (EdR w wj s t p' c' B N0 g (.slice A pre.length cap) pre))
          case atStart => exact ⟨0, rfl, rfl, rfl, rfl, rfl, hid (by omega), HR⟩
          case round =>
            obtain ⟨n, hn, rfl, rfl, rfl, rfl, HN, HQ⟩ := hrel
            clear HR
            by_cases hn4 : n = 4
            · exfalso
              subst hn4
              obtain ⟨x, hx, hbx⟩ := best_some (p := p') (c := c') HH.out
              obtain ⟨e, he, hok, rfl⟩ := steps_of hx
              have h1 := HN.out e he.1 he.2
              rw [best_at he, hok, hbx] at h1
              cases h1
            · have hn4' : n < 4 := by omega
              have HG := hid (redit_step (s := s) (t := t) (p := p') (c := c') (i := i) (k := k) (n := n) (by omega) (by omega) (by omega) (by omega) hi1 hk1 hn4')
              clear hn4
              obtain ⟨di, dk, co, ok, v1, r1, hstep, hsp, hno, hyes⟩ := HG.out
              have HS := hid hstep
              have HSP := hid hsp
              have HNO := hid hno
              have HYES := hid hyes
              have c0 := HQ.out.b5.cell 0
              have c1 := HQ.out.b5.cell 1
              simp only [List.getElem?_toArray, List.getElem?_cons_zero, List.getElem?_cons_succ] at c0 c1
              have hle : ((n + 1 : Nat) : Int) ≤ 4 := by omega
              clear hstep hsp hno hyes HG
              go_wp2_with fail
              refine (HS.out _).mono ?_
              rintro en w3 ⟨rfl, hb3⟩
              have HQ1 := hid (HQ.out.next hb3)
              clear HQ HS hb3 c0 c1 hle
              cases ok
              case false =>
                have HF := hid (HNO.out (.inl rfl))
                clear HNO HYES HSP
                go_wp2
                go_quiet (fail)
                go_wp2
                go_roundg (gk - 1)
                case measure => omega
                case rel =>
                  refine ⟨n + 1, by omega, rfl, rfl, rfl, congrArg (Value.int .i64) (by omega), hid fun e' h1 h2 => ?_, hid (HQ1.out.next (bdr _ _))⟩
                  by_cases e : e' = n + 1
                  · subst e; exact HF.out
                  · exact HN.out e' h1 (by omega)
              case true =>
                obtain ⟨⟨q1, q2, q3, q4, q5, q6, br1⟩, hv1, hr1⟩ := HSP.out rfl
                obtain ⟨i', hi'⟩ : ∃ i', i + di = i' := ⟨_, rfl⟩
                obtain ⟨k', hk'⟩ : ∃ k', k + dk = k' := ⟨_, rfl⟩
                have HY2 := hid (HYES.out rfl)
                rw [hi', hk'] at hr1 HY2
                have ei : IntKind.i64.wrap ((i : Int) + (di : Int)) = (i' : Int) := by rw [IntWalk.i64_in _ (by omega)]; omega
                have ek : IntKind.i64.wrap ((k : Int) + (dk : Int)) = (k' : Int) := by rw [IntWalk.i64_in _ (by omega)]; omega
                obtain ⟨rb, rc⟩ := HQ1.out.at_ (i := i') (k := k') (by omega) (by omega)
                obtain ⟨rb0, rc0⟩ := HQ1.out.at_ (i := i) (k := k) hi1 hk1
                rw [hr1] at rc
                rw [hv1] at rc0
                have ez : IntKind.i64.wrap ((co : Int) + (r1 : Int)) = ((r1 + co : Nat) : Int) := by rw [IntWalk.i64_in _ (by omega)]; omega
                have b1 : (i : Int) < (s.size : Int) + 1 := by omega
                have b2 : (k : Int) < (t.size : Int) + 1 := by omega
                have b3 : (i' : Int) < (s.size : Int) + 1 := by omega
                have b4 : (k' : Int) < (t.size : Int) + 1 := by omega
                have HI' := hid (And.intro hi' hk')
                clear HYES hi' hk' hr1 hv1 HSP
                by_cases hq : r1 + co = v1
                · have hqb : (((r1 + co : Nat) : Int) == (v1 : Int)) = true := by simp; omega
                  have HX := hid (HY2.out hq HN.out)
                  clear hq HNO HY2
                  go_wp2
                  go_quiet (fail)
                  clear ei ek ez
                  have HQ2 := hid (HQ1.out.next (bdr _ nq))
                  clear rb rc rb0 rc0 HQ1
                  generalize w3.drewN nq = w4 at HQ2 ⊢
                  have hs4 := HQ2.out.sz
                  go_wp2_with (at_builtin; refine wpList_append_own _ rfl _ _ 25 rfl N0 3 i0 (.int .i64 0) 1 8 Tryd.underlying25 hi hz0 hz1 hz2 rfl (by decide) _ _ _ rfl (HQ2.out.own.alloc _) ⟨w4.heap.size, 0, none⟩ 1 1 [.int .i64 ((n : Int) + 1)] rfl rfl ?c1 ?c2 ?c3 ?c4 ?c5 ?_)
                  case c1 => exact cell_one_new _ _ _
                  case c2 => simp [Value.oneCell']
                  case c3 => unfold maxLen; omega
                  case c4 => omega
                  case c5 => simp; omega
                  intro v' w5 hown' hgrow _
                  have hQ3 := HQ2.out.app hown' hgrow
                  clear hown' hgrow HQ2
                  have HQ3 := hid hQ3
                  clear hQ3
                  have ei2 : (i : Int) + (di : Int) = (i' : Int) := by have := HI'.out; omega
                  have ek2 : (k : Int) + (dk : Int) = (k' : Int) := by have := HI'.out; omega
                  go_wp2
                  obtain ⟨gm, hgm⟩ : ∃ gm, gm + 1 = (s.size - i) + (t.size - k) := ⟨(s.size - i) + (t.size - k) - 1, by have := HH.out; omega⟩
                  go_roundg gm
                  case measure => omega
                  case rel =>
                    refine ⟨i', k', pre ++ [((n + 1 : Nat) : Int)], by omega, by omega, by omega, rfl, rfl, hid ?_, HQ3⟩
                    rw [HP.out, HX.out, List.append_assoc]
                    rfl
                · have hqb : (((r1 + co : Nat) : Int) == (v1 : Int)) = false := by simp; omega
                  have HF := hid (HNO.out (.inr hq))
                  clear hq HNO HY2
                  go_wp2
                  go_quiet (fail)
                  clear ei ek ez
                  go_wp2
                  go_roundg (gk - 1)
                  case measure => omega
                  case rel =>
                    refine ⟨n + 1, by omega, rfl, rfl, rfl, congrArg (Value.int .i64) (by omega), hid fun e' h1 h2 => ?_, hid (HQ1.out.next (bdr _ _))⟩
                    by_cases e : e' = n + 1
                    · subst e; exact HF.out
                    · exact HN.out e' h1 (by omega)
      · obtain rfl : i = s.size := by omega
        obtain rfl : k = t.size := by omega
        go_wp2
        refine bodyPost_ret (v := .tuple #[.slice A pre.length cap, .int .i64 0]) (by simp [results, Tryd.results36, go_sem]) rfl ⟨A, pre.length, cap, by rw [HZ.out], ?_, HR.out.bel⟩
        rw [HZ.out, if_pos rfl, Int.toNat_natCast, Int.toNat_natCast, HP.out, edAt_end, List.append_nil]
        exact IntsV.own HR.out.own rfl (by have h1 := edt_len (p := p') (c := c') s.data.toList t.data.toList; rw [HP.out, List.length_append] at h1; simp at h1; omega)
  · have HZ := hid hz
    have hne : (codeP s t p c != 0) = true := by simpa using hz
    have HB := hid hb1
    clear hb1 hz hB0
    go_wp2
    refine bodyPost_ret (v := .tuple #[.slice none 0 0, .int .i64 (codeP s t p c)]) (by simp [results, Tryd.results36, go_sem]) rfl ⟨none, 0, 0, rfl, ?_, HB.out⟩
    rw [if_neg HZ.out]
    exact IntsV.nil _
end Go.Proofs.YtmhlgnhfbickdaaDoor
