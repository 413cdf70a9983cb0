/-
  Which lists are edits, what they cost, the edits back: the program and the reference. Conditions: the list lies in memory.
-/
import Derived.Test.YtmhlgnhfbickdaaDoorP18
namespace Go.Proofs.YtmhlgnhfbickdaaDoor
set_option linter.unusedVariables false
set_option linter.unusedSimpArgs false
open Go.RowKit Go.Shelf

def codeV (s t : ByteArray) : Int := if valB s && valB t then 0 else 90
theorem codeV_P (s t : ByteArray) : codeP s t 1 1 = codeV s t := by
  unfold codeP codeV
  rw [show vcB 1 1 = true by decide]
  rfl
theorem codeV_zero {s t : ByteArray} (h : codeV s t = 0) : s.size ≤ 20 ∧ t.size ≤ 20 := by
  have := codeP_zero ((codeV_P s t).trans h)
  exact ⟨this.1, this.2.1⟩
def isE (s t : ByteArray) (n : Nat) (f : Nat → Int) : Bool := (cstO s t 1 1 n f).isSome
theorem isE_any (s t : ByteArray) (p c n : Nat) (f : Nat → Int) : (cstO s t p c n f).isSome = isE s t n f := by
  unfold isE cstO
  split
  · rfl
  · exact cst_some _ _ _
def AreR (w : World) (s t : ByteArray) (n : Nat) (f : Nat → Int) (e : Ending) (w' : World) : Prop :=
  e = .returned (.tuple #[.bool (decide (codeV s t = 0) && isE s t n f), .int .i64 (codeV s t)]) ∧ Below w.heap.size w w'

set_option maxHeartbeats 1000000 in
/-- print.AreEdits -/
theorem are_any (s t : ByteArray) (A : Option Addr) (n cap : Nat) (f : Nat → Int) (w : World) (hs : s.size ≤ 9223372036854775807) (ht : t.size ≤ 9223372036854775807) (hl : HoursAt w A n f) :
    Calls Tryd.prog 46 #[.string s, .string t, .slice A n cap] w (AreR w s t n f) := by
  have HL := hid hl
  clear hl
  go_enter Tryd.func46, Tryd.ntmps46
  go_wp2_with fail
  refine (plain_any _).mono ?_
  rintro e w0 ⟨rfl, hb0⟩
  have HB0 := hid hb0
  clear hb0
  go_wp2_with fail
  refine (newPair_any s t 1 1 _ hs ht).mono ?_
  rintro e w1 ⟨x, y, u, v, rfl, h0, hb1⟩
  rw [codeV_P] at h0 ⊢
  have HB1 := hid (btr HB0.out hb1 HB0.out.size)
  clear hb1 HB0
  by_cases hz : codeV s t = 0
  · obtain ⟨rfl, rfl, rfl, rfl⟩ := h0 hz
    have h20 := codeV_zero hz
    have HZ := hid hz
    rw [hz]
    clear hz h0
    have HB := hid (btr HB1.out (box_bel w1 (.cells #[.string x, .string y, .int .i64 1, .int .i64 1] 72)) HB1.out.size)
    have hcon : ∀ wx, Below w.heap.size w wx → Calls Tryd.prog 64 #[.agg #[.string x, .string y, .int .i64 1, .int .i64 1], .slice A n cap] wx (GoneR wx x y 1 1 n f) := fun wx hbx => cost_any x y 1 1 n cap A f wx h20.1 h20.2 (by omega) (by omega) (HL.out.below hbx)
    have HC := hid hcon
    clear hcon
    go_wp2_with fail
    refine (HC.out _ HB.out).mono ?_
    rintro e w2 ⟨m, rfl, _, hb2⟩
    have HB2 := hid (btr HB.out hb2 HB.out.size)
    have HI : Hid ((cstO x y 1 1 n f).isSome = isE x y n f) := hid rfl
    rw [HI.out]
    clear hb2
    go_wp2
    refine bodyPost_ret (v := .tuple #[.bool (isE x y n f), .int .i64 0]) (by simp [results, Tryd.results46, go_sem]) rfl ⟨by rw [HZ.out]; rfl, HB2.out⟩
  · have HZ := hid hz
    have hne : (codeV s t != 0) = true := by simpa using hz
    have HB := hid (btr HB1.out (box_bel w1 (.cells #[.string x, .string y, .int .i64 u, .int .i64 v] 72)) HB1.out.size)
    clear hz h0
    go_wp2
    refine bodyPost_ret (v := .tuple #[.bool false, .int .i64 (codeV s t)]) (by simp [results, Tryd.results46, go_sem]) rfl ⟨by rw [decide_eq_false HZ.out]; rfl, HB.out⟩

set_option maxHeartbeats 1000000 in
/-- skimmerref09.AreEdits -/
theorem rAre_any (s t : ByteArray) (A : Option Addr) (n cap : Nat) (f : Nat → Int) (w : World) (hs : s.size ≤ 9223372036854775807) (ht : t.size ≤ 9223372036854775807) (hl : HoursAt w A n f) :
    Calls Tryd.prog 47 #[.string s, .string t, .slice A n cap] w (AreR w s t n f) := by
  have HL := hid hl
  have HS := hid hs
  have HT := hid ht
  clear hl hs ht
  cases h1 : valB s
  · have HZ : Hid (codeV s t = 90) := hid (by unfold codeV; rw [h1]; rfl)
    have H1 := hid h1
    clear h1
    go_enter Tryd.func47, Tryd.ntmps47
    go_wp2_with (go_at_call 21; refine (rValid_any _ _ HS.out).mono ?_; rintro e w' ⟨rfl, rfl⟩; rw [H1.out])
    refine bodyPost_ret (v := .tuple #[.bool false, .int .i64 90]) (by simp [results, Tryd.results47, go_sem]) rfl ⟨by rw [HZ.out]; rfl, Below.refl _ _⟩
  · cases h2 : valB t
    · have HZ : Hid (codeV s t = 90) := hid (by unfold codeV; rw [h1, h2]; rfl)
      have H1 := hid h1
      have H2 := hid h2
      clear h1 h2
      go_enter Tryd.func47, Tryd.ntmps47
      go_wp2_with fail
      refine (rValid_any _ _ HS.out).mono ?_
      rintro e w' ⟨rfl, rfl⟩
      rw [H1.out]
      go_wp2_with (go_at_call 21; refine (rValid_any _ _ HT.out).mono ?_; rintro e w' ⟨rfl, rfl⟩; rw [H2.out])
      refine bodyPost_ret (v := .tuple #[.bool false, .int .i64 90]) (by simp [results, Tryd.results47, go_sem]) rfl ⟨by rw [HZ.out]; rfl, Below.refl _ _⟩
    · have hz : codeV s t = 0 := by unfold codeV; rw [h1, h2]; rfl
      have h20 := codeV_zero hz
      have HZ := hid hz
      have H1 := hid h1
      have H2 := hid h2
      have hcon : ∀ wx, Below w.heap.size w wx → Calls Tryd.prog 77 #[.string s, .string t, .slice A n cap, .agg #[.int .i64 0, .int .i64 0]] wx (GoneR wx s t 0 0 n f) := fun wx hbx => gone_any s t 0 0 n cap A f wx h20.1 h20.2 (by omega) (by omega) (HL.out.below hbx)
      have HC := hid hcon
      clear h1 h2 hz hcon
      go_enter Tryd.func47, Tryd.ntmps47
      go_wp2_with fail
      refine (rValid_any _ _ HS.out).mono ?_
      rintro e w' ⟨rfl, rfl⟩
      rw [H1.out]
      go_wp2_with fail
      refine (rValid_any _ _ HT.out).mono ?_
      rintro e w' ⟨rfl, rfl⟩
      rw [H2.out]
      go_wp2_with fail
      refine (HC.out _ (Below.refl _ _)).mono ?_
      rintro e w2 ⟨m, rfl, _, hb2⟩
      have HB2 := hid hb2
      rw [isE_any]
      clear hb2
      go_wp2
      refine bodyPost_ret (v := .tuple #[.bool (isE s t n f), .int .i64 0]) (by simp [results, Tryd.results47, go_sem]) rfl ⟨by rw [HZ.out]; rfl, HB2.out⟩

/-! ### what they cost -/
def costV (s t : ByteArray) (p c : Int) (n : Nat) (f : Nat → Int) : Int × Int :=
  if codeP s t p c = 0 then (match cstO s t p.toNat c.toNat n f with | none => (0, 5) | some x => ((x : Int), 0)) else (0, codeP s t p c)
def CostR (w : World) (s t : ByteArray) (p c : Int) (n : Nat) (f : Nat → Int) (e : Ending) (w' : World) : Prop :=
  e = .returned (.tuple #[.int .i64 (costV s t p c n f).1, .int .i64 (costV s t p c n f).2]) ∧ Below w.heap.size w w'
theorem costV_bad {s t : ByteArray} {p c : Int} {n : Nat} {f : Nat → Int} (h : codeP s t p c ≠ 0) : costV s t p c n f = (0, codeP s t p c) := if_neg h
theorem costV_none {s t : ByteArray} {p c n : Nat} {f : Nat → Int} (h : codeP s t p c = 0) (h2 : cstO s t p c n f = none) : costV s t p c n f = (0, 5) := by
  unfold costV; rw [if_pos h, Int.toNat_natCast, Int.toNat_natCast, h2]
theorem costV_some {s t : ByteArray} {p c n x : Nat} {f : Nat → Int} (h : codeP s t p c = 0) (h2 : cstO s t p c n f = some x) : costV s t p c n f = ((x : Int), 0) := by
  unfold costV; rw [if_pos h, Int.toNat_natCast, Int.toNat_natCast, h2]

set_option maxHeartbeats 1000000 in
/-- print.CostOf -/
theorem costOf_any (s t : ByteArray) (A : Option Addr) (n cap : Nat) (f : Nat → Int) (p c : Int) (w : World) (hs : s.size ≤ 9223372036854775807) (ht : t.size ≤ 9223372036854775807) (hl : HoursAt w A n f) :
    Calls Tryd.prog 24 #[.string s, .string t, .slice A n cap, .agg #[.int .i64 p, .int .i64 c]] w (CostR w s t p c n f) := by
  have HL := hid hl
  have hb0 := box_bel w (.cells #[.int .i64 p, .int .i64 c] 24)
  clear hl
  go_enter Tryd.func24, Tryd.ntmps24
  go_wp2_with fail
  refine (newPair_any s t p c _ hs ht).mono ?_
  rintro e w1 ⟨x, y, u, v, rfl, h0, hb⟩
  have HB1 := hid (box_trans _ hb)
  clear hb hb0
  by_cases hz : codeP s t p c = 0
  · obtain ⟨rfl, rfl, rfl, rfl⟩ := h0 hz
    have h20 := codeP_zero hz
    have HZ := hid hz
    rw [hz]
    clear hz h0
    obtain ⟨p', rfl⟩ : ∃ p' : Nat, u = (p' : Int) := ⟨u.toNat, by omega⟩
    obtain ⟨c', rfl⟩ : ∃ c' : Nat, v = (c' : Int) := ⟨v.toNat, by omega⟩
    have HB := hid (btr HB1.out (box_bel w1 (.cells #[.string x, .string y, .int .i64 (p' : Int), .int .i64 (c' : Int)] 72)) HB1.out.size)
    have HC := hid (fun wx (hbx : Below w.heap.size w wx) => cost_any x y p' c' n cap A f wx h20.1 h20.2.1 (by omega) (by omega) (HL.out.below hbx))
    go_wp2_with fail
    refine (HC.out _ HB.out).mono ?_
    rintro e w2 ⟨m, rfl, hm, hb2⟩
    have HB2 := hid (btr HB.out hb2 HB.out.size)
    clear hb2
    cases hO : cstO x y p' c' n f with
    | none =>
      have HV := hid (costV_none HZ.out hO)
      clear hm hO
      go_wp2
      refine bodyPost_ret (v := .tuple #[.int .i64 0, .int .i64 5]) (by simp [results, Tryd.results24, go_sem]) rfl ⟨by rw [HV.out], HB2.out⟩
    | some z =>
      have HV := hid (costV_some HZ.out hO)
      obtain rfl := hm z hO
      clear hm hO
      go_wp2
      refine bodyPost_ret (v := .tuple #[.int .i64 (z : Int), .int .i64 0]) (by simp [results, Tryd.results24, go_sem]) rfl ⟨by rw [HV.out], HB2.out⟩
  · have HV := hid (costV_bad (n := n) (f := f) hz)
    have hne : (codeP s t p c != 0) = true := by simpa using hz
    have HB := hid (btr HB1.out (box_bel w1 (.cells #[.string x, .string y, .int .i64 u, .int .i64 v] 72)) HB1.out.size)
    clear hz h0
    go_wp2
    refine bodyPost_ret (v := .tuple #[.int .i64 0, .int .i64 (codeP s t p c)]) (by simp [results, Tryd.results24, go_sem]) rfl ⟨by rw [HV.out], HB.out⟩

set_option maxHeartbeats 1000000 in
/-- skimmerref09.CostOf -/
theorem rCostOf_any (s t : ByteArray) (A : Option Addr) (n cap : Nat) (f : Nat → Int) (p c : Int) (w : World) (hs : s.size ≤ 9223372036854775807) (ht : t.size ≤ 9223372036854775807) (hl : HoursAt w A n f) :
    Calls Tryd.prog 48 #[.string s, .string t, .slice A n cap, .agg #[.int .i64 p, .int .i64 c]] w (CostR w s t p c n f) := by
  have HL := hid hl
  have hb0 := box_bel w (.cells #[.int .i64 p, .int .i64 c] 24)
  clear hl
  go_enter Tryd.func48, Tryd.ntmps48
  go_wp2_with fail
  refine (asked_any s t p c _ hs ht).mono ?_
  rintro e w1 ⟨rfl, hb⟩
  have HB1 := hid (box_trans _ hb)
  have c0 : w1.cell? ⟨w.heap.size, 0, none⟩ = some (.int .i64 p) := ((Blk.new w 24 #[.int .i64 p, .int .i64 c]).below' hb).cell 0
  have c1 : w1.cell? ⟨w.heap.size, 1, none⟩ = some (.int .i64 c) := ((Blk.new w 24 #[.int .i64 p, .int .i64 c]).below' hb).cell 1
  clear hb hb0
  by_cases hz : codeP s t p c = 0
  · have h20 := codeP_zero hz
    have HZ := hid hz
    rw [hz]
    clear hz
    obtain ⟨p', rfl⟩ : ∃ p' : Nat, p = (p' : Int) := ⟨p.toNat, by omega⟩
    obtain ⟨c', rfl⟩ : ∃ c' : Nat, c = (c' : Int) := ⟨c.toNat, by omega⟩
    have HC := hid (fun wx (hbx : Below w.heap.size w wx) => gone_any s t p' c' n cap A f wx h20.1 h20.2.1 (by omega) (by omega) (HL.out.below hbx))
    go_wp2_with fail
    refine (HC.out _ HB1.out).mono ?_
    rintro e w2 ⟨m, rfl, hm, hb2⟩
    have HB2 := hid (btr HB1.out hb2 HB1.out.size)
    clear hb2 c0 c1
    cases hO : cstO s t p' c' n f with
    | none =>
      have HV := hid (costV_none HZ.out hO)
      clear hm hO
      go_wp2
      refine bodyPost_ret (v := .tuple #[.int .i64 0, .int .i64 5]) (by simp [results, Tryd.results48, go_sem]) rfl ⟨by rw [HV.out], HB2.out⟩
    | some z =>
      have HV := hid (costV_some HZ.out hO)
      obtain rfl := hm z hO
      clear hm hO
      go_wp2
      refine bodyPost_ret (v := .tuple #[.int .i64 (z : Int), .int .i64 0]) (by simp [results, Tryd.results48, go_sem]) rfl ⟨by rw [HV.out], HB2.out⟩
  · have HV := hid (costV_bad (n := n) (f := f) hz)
    have hne : (codeP s t p c != 0) = true := by simpa using hz
    clear hz c0 c1
    go_wp2
    refine bodyPost_ret (v := .tuple #[.int .i64 0, .int .i64 (codeP s t p c)]) (by simp [results, Tryd.results48, go_sem]) rfl ⟨by rw [HV.out], HB1.out⟩
end Go.Proofs.YtmhlgnhfbickdaaDoor
