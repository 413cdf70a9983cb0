/-
  What edits cost: the reference. Conditions: the prints are short, the list lies in memory.
-/
import Derived.Test.YtmhlgnhfbickdaaDoorP14
namespace Go.Proofs.YtmhlgnhfbickdaaDoor
set_option linter.unusedVariables false
set_option linter.unusedSimpArgs false
open Go.RowKit Go.Shelf

set_option maxRecDepth 100000 in
set_option maxHeartbeats 2000000 in
/-- skimmerref09.step, at what is no edit -/
theorem rstep_other (s t : ByteArray) (i k : Nat) (e : Int) (p c : Int) (w : World) (hs : s.size ≤ 1000000) (ht : t.size ≤ 1000000) (hi : i ≤ s.size) (hk : k ≤ t.size) (he : ¬ (1 ≤ e ∧ e ≤ 4)) :
    Calls Tryd.prog 71 #[.string s, .string t, .int .i64 (i : Int), .int .i64 (k : Int), .int .i64 e, .agg #[.int .i64 p, .int .i64 c]] w fun en w' =>
      en = .returned (.tuple #[.int .i64 0, .int .i64 0, .int .i64 0, .bool false]) ∧ Below w.heap.size w w' := by
  have hb := hid (box_bel w (.cells #[.int .i64 p, .int .i64 c] 24))
  have e1 : (e == 1) = false := by simp; omega
  have e2 : (e == 2) = false := by simp; omega
  have e3 : (e == 3) = false := by simp; omega
  have e4 : (e == 4) = false := by simp; omega
  clear he
  by_cases h1 : i < s.size
  · by_cases h2 : k < t.size
    · go_enter Tryd.func71, Tryd.ntmps71
      go_wp2
      refine bodyPost_ret (v := .tuple #[.int .i64 0, .int .i64 0, .int .i64 0, .bool false]) (by simp [results, Tryd.results71, go_sem]) rfl ⟨rfl, hb.out⟩
    · have d2 : decide (k < t.size) = false := by simp; omega
      go_enter Tryd.func71, Tryd.ntmps71
      go_wp2
      refine bodyPost_ret (v := .tuple #[.int .i64 0, .int .i64 0, .int .i64 0, .bool false]) (by simp [results, Tryd.results71, go_sem]) rfl ⟨rfl, hb.out⟩
  · have d1 : decide (i < s.size) = false := by simp; omega
    go_enter Tryd.func71, Tryd.ntmps71
    go_wp2
    refine bodyPost_ret (v := .tuple #[.int .i64 0, .int .i64 0, .int .i64 0, .bool false]) (by simp [results, Tryd.results71, go_sem]) rfl ⟨rfl, hb.out⟩

/-- what is left of a list behind j -/
def remL (n : Nat) (f : Nat → Int) (j : Nat) : List Int := ((List.range n).map f).drop j
theorem remL_cons {n j : Nat} {f : Nat → Int} (h : j < n) : remL n f j = f j :: remL n f (j + 1) := by
  unfold remL
  rw [List.drop_eq_getElem_cons (by simpa using h)]
  simp
theorem remL_nil (n : Nat) (f : Nat → Int) : remL n f n = [] := by unfold remL; rw [List.drop_of_length_le (by simp)]
theorem remL_zero (n : Nat) (f : Nat → Int) : remL n f 0 = (List.range n).map f := rfl
/-- what the list of edits costs; none: it is none -/
def cstO (s t : ByteArray) (p c n : Nat) (f : Nat → Int) : Option Nat := if 100 < n then none else cstAt s t p c ((List.range n).map f) 0 0
def GoneR (w : World) (s t : ByteArray) (p c n : Nat) (f : Nat → Int) (e : Ending) (w' : World) : Prop :=
  ∃ m : Int, e = .returned (.tuple #[.int .i64 m, .bool (cstO s t p c n f).isSome]) ∧ (∀ x, cstO s t p c n f = some x → m = (x : Int)) ∧ Below w.heap.size w w'
/-- one edit of a list, all that a walk wants -/
theorem gone_step {s t : ByteArray} {p c i k : Nat} {e : Int} (hs : s.size ≤ 20) (ht : t.size ≤ 20) (hp : p ≤ 9) (hc : c ≤ 9) (hi : i ≤ s.size) (hk : k ≤ t.size) :
    ∃ (di dk co : Nat) (ok : Bool), (∀ wx, Calls Tryd.prog 71 #[.string s, .string t, .int .i64 (i : Int), .int .i64 (k : Int), .int .i64 e, .agg #[.int .i64 (p : Int), .int .i64 (c : Int)]] wx fun en w' =>
        en = .returned (.tuple #[.int .i64 (co : Int), .int .i64 (di : Int), .int .i64 (dk : Int), .bool ok]) ∧ Below wx.heap.size wx w') ∧
      (ok = true → (i + di ≤ s.size ∧ k + dk ≤ t.size ∧ co ≤ 9) ∧ ∀ l, cstAt s t p c (e :: l) i k = (cstAt s t p c l (i + di) (k + dk)).map (co + ·)) ∧
      (ok = false → ∀ l, cstAt s t p c (e :: l) i k = none) := by
  by_cases he : 1 ≤ e ∧ e ≤ 4
  · obtain ⟨n, rfl⟩ : ∃ n : Nat, e = (n : Int) := ⟨e.toNat, by omega⟩
    refine ⟨diS n, dkS n, coN p c n, okS s.data.toList t.data.toList i k n, fun wx => ?_, fun h => ⟨?_, fun l => ?_⟩, fun h l => ?_⟩
    · have h := rstep_any s t i k n (p : Int) (c : Int) wx (by omega) (by omega) hi hk (by omega)
      rw [coS_N] at h
      exact h
    · have h2 := okS_spec h (by simpa using hi) (by simpa using hk) hp hc
      simp only [Array.length_toList, ByteArray.size_data] at h2
      exact ⟨h2.1, h2.2.1, h2.2.2.2.2.2⟩
    · rw [cstAt_cons (by omega), h, if_pos rfl]
    · rw [cstAt_cons (by omega), h]; rfl
  · refine ⟨0, 0, 0, false, fun wx => ?_, fun h => by (cases h), fun _ l => cstAt_other he l⟩
    exact rstep_other s t i k e (p : Int) (c : Int) wx (by omega) (by omega) hi hk he

set_option maxRecDepth 100000 in
set_option maxHeartbeats 4000000 in
/-- skimmerref09.gone -/
theorem gone_any (s t : ByteArray) (p c n cap : Nat) (A : Option Addr) (f : Nat → Int) (w : World) (hs : s.size ≤ 20) (ht : t.size ≤ 20) (hp : p ≤ 9) (hc : c ≤ 9) (hl : HoursAt w A n f) :
    Calls Tryd.prog 77 #[.string s, .string t, .slice A n cap, .agg #[.int .i64 (p : Int), .int .i64 (c : Int)]] w (GoneR w s t p c n f) := by
  have hb0 := hid (box_bel w (.cells #[.int .i64 (p : Int), .int .i64 (c : Int)] 24))
  have HB := hid (Blk.new w 24 #[.int .i64 (p : Int), .int .i64 (c : Int)])
  by_cases h100 : 100 < n
  · have HC : Hid (cstO s t p c n f = none) := hid (if_pos h100)
    have h1 : (100 : Int) < (n : Int) := by omega
    clear h100 hl
    go_enter Tryd.func77, Tryd.ntmps77
    go_wp2
    refine bodyPost_ret (v := .tuple #[.int .i64 0, .bool false]) (by simp [results, Tryd.results77, go_sem]) rfl ⟨0, by rw [HC.out]; rfl, fun x hx => ?_, hb0.out⟩
    rw [HC.out] at hx; cases hx
  · have HC : Hid (cstO s t p c n f = cstAt s t p c (remL n f 0) 0 0) := hid (if_neg h100)
    have h1 : (n : Int) ≤ 100 := by omega
    have hl1 := hl.below hb0.out
    obtain ⟨hn, b, off, hlt, hA, hcl⟩ := hl1
    have HL := hid (And.intro hlt hcl)
    clear h100 hl hlt hcl hn
    go_enter Tryd.func77, Tryd.ntmps77
    go_wp2
    obtain ⟨wb, hwb⟩ : ∃ wb, w.alloc (.cells #[.int .i64 (p : Int), .int .i64 (c : Int)] 24) = wb := ⟨_, rfl⟩
    rw [hwb] at hb0 HB HL ⊢
    clear hwb
    go_loopw [10, 11, 12, 24] (fun xi xk xs x wr => ∃ j i k sm : Nat, j ≤ n ∧ i ≤ s.size ∧ k ≤ t.size ∧ sm ≤ 9 * j ∧ xi = .int .i64 (i : Int) ∧ xk = .int .i64 (k : Int) ∧ xs = .int .i64 (sm : Int) ∧ x = .int .i64 (j : Int) ∧
      Hid (cstO s t p c n f = (cstAt s t p c (remL n f j) i k).map (sm + ·)) ∧ Hid (Below wb.heap.size wb wr)) (fun _ _ _ x _ => n - (intOf x).toNat)
    case atStart => exact ⟨0, 0, 0, 0, by omega, by omega, by omega, by omega, rfl, rfl, rfl, rfl, hid (by rw [HC.out]; simp), hid (Below.refl _ _)⟩
    case round =>
      obtain ⟨j, i, k, sm, hj, hi, hk, hsm, rfl, rfl, rfl, rfl, HS, HW⟩ := hrel
      by_cases hjn : j < n
      · obtain rfl := hA (by omega)
        have hcj := (HW.out.cell (p := ⟨b, off + j, none⟩) (HL.out.1 (by omega))).trans (HL.out.2 j hjn)
        obtain ⟨e, he⟩ : ∃ e, f j = e := ⟨_, rfl⟩
        have hrem := remL_cons (f := f) hjn
        rw [he] at hcj hrem
        obtain ⟨di, dk, co, ok, hst, hyes, hno⟩ := gone_step (s := s) (t := t) (p := p) (c := c) (i := i) (k := k) (e := e) hs ht hp hc hi hk
        have HST := hid hst
        have HY := hid hyes
        have HN := hid hno
        have HR := hid hrem
        have B1 := hid (HB.out.below' HW.out)
        have c0 := B1.out.cell 0
        have c1 := B1.out.cell 1
        simp only [List.getElem?_toArray, List.getElem?_cons_zero, List.getElem?_cons_succ] at c0 c1
        clear hst hyes hno hrem he
        go_wp2_with fail
        refine (HST.out _).mono ?_
        rintro en w3 ⟨rfl, hb3⟩
        have HW3 := hid (btr HW.out hb3 HW.out.size)
        clear hb3 c0 c1 hcj
        cases ok
        · have HF : Hid (cstO s t p c n f = none) := hid (by rw [HS.out, HR.out, HN.out rfl]; rfl)
          clear HS HY HN
          go_wp2
          refine bodyPost_ret (v := .tuple #[.int .i64 0, .bool false]) (by simp [results, Tryd.results77, go_sem]) rfl ⟨0, by rw [HF.out]; rfl, fun x hx => ?_, btr hb0.out HW3.out hb0.out.size⟩
          rw [HF.out] at hx; cases hx
        · obtain ⟨⟨q1, q2, q3⟩, hy⟩ := HY.out rfl
          have HF : Hid (cstO s t p c n f = (cstAt s t p c (remL n f (j + 1)) (i + di) (k + dk)).map (sm + co + ·)) := hid (by
            rw [HS.out, HR.out, hy, Option.map_map]
            congr 1
            funext x
            show sm + (co + x) = sm + co + x
            omega)
          clear HS HY HN hy
          go_wp2
          go_roundw
          case rel => exact ⟨j + 1, i + di, k + dk, sm + co, by omega, q1, q2, by omega, by go_num, by go_num, by go_num, by go_num, HF, HW3⟩
          case measure => simp [intOf]; omega
      · obtain rfl : j = n := by omega
        have hfin := cstAt_nil (s := s) (t := t) (p := p) (c := c) hi hk
        rw [← remL_nil j f] at hfin
        by_cases hd : i = s.size ∧ k = t.size
        · obtain ⟨rfl, rfl⟩ := hd
          have HF : Hid (cstO s t p c j f = some sm) := hid (by rw [HS.out, hfin, if_pos ⟨rfl, rfl⟩]; rfl)
          clear HS hfin HL
          go_wp2
          refine bodyPost_ret (v := .tuple #[.int .i64 (sm : Int), .bool true]) (by simp [results, Tryd.results77, go_sem]) rfl ⟨(sm : Int), by rw [HF.out]; rfl, fun x hx => ?_, btr hb0.out HW.out hb0.out.size⟩
          rw [HF.out] at hx; injection hx with hx; rw [hx]
        · have HF : Hid (cstO s t p c j f = none) := hid (by rw [HS.out, hfin, if_neg hd]; rfl)
          clear HS hfin HL
          by_cases h1 : i = s.size
          · have d1 : (i : Int) = (s.size : Int) := by omega
            have d2 : ((k : Int) == (t.size : Int)) = false := by simp; omega
            clear hd h1
            go_wp2
            refine bodyPost_ret (v := .tuple #[.int .i64 (sm : Int), .bool false]) (by simp [results, Tryd.results77, go_sem]) rfl ⟨(sm : Int), by rw [HF.out]; rfl, fun x hx => ?_, btr hb0.out HW.out hb0.out.size⟩
            rw [HF.out] at hx; cases hx
          · have d1 : ((i : Int) == (s.size : Int)) = false := by simp; omega
            clear hd h1
            go_wp2
            refine bodyPost_ret (v := .tuple #[.int .i64 (sm : Int), .bool false]) (by simp [results, Tryd.results77, go_sem]) rfl ⟨(sm : Int), by rw [HF.out]; rfl, fun x hx => ?_, btr hb0.out HW.out hb0.out.size⟩
            rw [HF.out] at hx; cases hx
end Go.Proofs.YtmhlgnhfbickdaaDoor
