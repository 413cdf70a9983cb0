/-
  Distance and Ways of the reference; Awake. Conditions: none but that the prints' lengths are int's.
-/
import Derived.Test.YtmhlgnhfbickdaaDoorP5
import Derived.Test.YtmhlgnhfbickdaaDoorP8
namespace Go.Proofs.YtmhlgnhfbickdaaDoor
set_option linter.unusedVariables false
set_option linter.unusedSimpArgs false
open Go.RowKit Go.Shelf

/-- the reference: rdist -/
theorem rdist_any (s t : ByteArray) (p c : Int) (w : World) (hs : s.size ≤ 9223372036854775807) (ht : t.size ≤ 9223372036854775807) :
    Calls Tryd.prog 30 #[.string s, .string t, .agg #[.int .i64 p, .int .i64 c]] w (numR (fun x => x.1) w s t p c) := by
  have hb0 := box_bel w (.cells #[.int .i64 p, .int .i64 c] 24)
  go_enter Tryd.func30, Tryd.ntmps30
  go_wp2_with fail
  refine (asked_any s t p c _ hs ht).mono ?_
  rintro e w1 ⟨rfl, hb⟩
  have hb1 := box_trans _ hb
  have c0 : w1.cell? ⟨w.heap.size, 0, none⟩ = some (.int .i64 p) := ((Blk.new w 24 #[.int .i64 p, .int .i64 c]).below' hb).cell 0
  have c1 : w1.cell? ⟨w.heap.size, 1, none⟩ = some (.int .i64 c) := ((Blk.new w 24 #[.int .i64 p, .int .i64 c]).below' hb).cell 1
  clear hb hb0
  by_cases hz : codeP s t p c = 0
  · have h20 := codeP_zero hz
    have HZ := hid hz
    rw [hz]
    clear hz
    obtain ⟨p', rfl⟩ : ∃ p' : Nat, p = (p' : Int) := ⟨p.toNat, by omega⟩
    obtain ⟨c', rfl⟩ : ∃ c' : Nat, c = (c' : Int) := ⟨c.toNat, by omega⟩
    have HB := hid hb1
    clear hb1
    go_wp2_with fail
    refine (left_any s t p' c' _ h20.1 h20.2.1 (by omega) (by omega)).mono ?_
    rintro e w2 ⟨B, Y, g, h, rfl, HL⟩
    have h1 := (HL.bo.cell 0).trans (rowsA_get (by omega))
    rw [if_pos (Nat.le_refl _)] at h1
    have h3 := ((HL.br 0 (Nat.le_refl _) (Nat.zero_le _)).cell 0).trans (intsA_get (by omega))
    have i1 : (0 : Int) < (s.size : Int) + 1 := by omega
    have i2 : (0 : Int) < (t.size : Int) + 1 := by omega
    have HB2 := hid (btr HB.out HL.bel HB.out.size)
    clear HL c0 c1
    go_wp2
    refine bodyPost_ret (v := .tuple #[.int .i64 ((val s t p' c' 0 0).1 : Int), .int .i64 0]) (by simp [results, Tryd.results30, go_sem]) rfl ⟨?_, HB2.out⟩
    rw [HZ.out, if_pos rfl]
    rfl
  · have HZ := hid hz
    have hne : (codeP s t p c != 0) = true := by simpa using hz
    have HB := hid hb1
    clear hb1 hz
    go_wp2
    refine bodyPost_ret (v := .tuple #[.int .i64 0, .int .i64 (codeP s t p c)]) (by simp [results, Tryd.results30, go_sem]) rfl ⟨?_, HB.out⟩
    rw [if_neg HZ.out]

/-- the reference: rways -/
theorem rways_any (s t : ByteArray) (p c : Int) (w : World) (hs : s.size ≤ 9223372036854775807) (ht : t.size ≤ 9223372036854775807) :
    Calls Tryd.prog 32 #[.string s, .string t, .agg #[.int .i64 p, .int .i64 c]] w (numR (fun x => x.2) w s t p c) := by
  have hb0 := box_bel w (.cells #[.int .i64 p, .int .i64 c] 24)
  go_enter Tryd.func32, Tryd.ntmps32
  go_wp2_with fail
  refine (asked_any s t p c _ hs ht).mono ?_
  rintro e w1 ⟨rfl, hb⟩
  have hb1 := box_trans _ hb
  have c0 : w1.cell? ⟨w.heap.size, 0, none⟩ = some (.int .i64 p) := ((Blk.new w 24 #[.int .i64 p, .int .i64 c]).below' hb).cell 0
  have c1 : w1.cell? ⟨w.heap.size, 1, none⟩ = some (.int .i64 c) := ((Blk.new w 24 #[.int .i64 p, .int .i64 c]).below' hb).cell 1
  clear hb hb0
  by_cases hz : codeP s t p c = 0
  · have h20 := codeP_zero hz
    have HZ := hid hz
    rw [hz]
    clear hz
    obtain ⟨p', rfl⟩ : ∃ p' : Nat, p = (p' : Int) := ⟨p.toNat, by omega⟩
    obtain ⟨c', rfl⟩ : ∃ c' : Nat, c = (c' : Int) := ⟨c.toNat, by omega⟩
    have HB := hid hb1
    clear hb1
    go_wp2_with fail
    refine (left_any s t p' c' _ h20.1 h20.2.1 (by omega) (by omega)).mono ?_
    rintro e w2 ⟨B, Y, g, h, rfl, HL⟩
    have h1 := (HL.yo.cell 0).trans (rowsA_get (by omega))
    rw [if_pos (Nat.le_refl _)] at h1
    have h3 := ((HL.yr 0 (Nat.le_refl _) (Nat.zero_le _)).cell 0).trans (intsA_get (by omega))
    have i1 : (0 : Int) < (s.size : Int) + 1 := by omega
    have i2 : (0 : Int) < (t.size : Int) + 1 := by omega
    have HB2 := hid (btr HB.out HL.bel HB.out.size)
    clear HL c0 c1
    go_wp2
    refine bodyPost_ret (v := .tuple #[.int .i64 ((val s t p' c' 0 0).2 : Int), .int .i64 0]) (by simp [results, Tryd.results32, go_sem]) rfl ⟨?_, HB2.out⟩
    rw [HZ.out, if_pos rfl]
    rfl
  · have HZ := hid hz
    have hne : (codeP s t p c != 0) = true := by simpa using hz
    have HB := hid hb1
    clear hb1 hz
    go_wp2
    refine bodyPost_ret (v := .tuple #[.int .i64 0, .int .i64 (codeP s t p c)]) (by simp [results, Tryd.results32, go_sem]) rfl ⟨?_, HB.out⟩
    rw [if_neg HZ.out]

theorem awake_val : numR (fun x => x.1) = numR (fun x => x.1) := rfl
def sA : ByteArray := { data := #[97, 98, 99, 100] }
def sB : ByteArray := { data := #[97, 99, 98, 100] }
theorem awake_dst : codeP sA sB 1 1 = 0 ∧ (dw 1 1 sA.data.toList sB.data.toList).1 = 2 := by
  constructor
  · decide +kernel
  · decide +kernel
/-- Awake -/
theorem awake_any (w : World) : Calls Tryd.prog 20 #[] w fun e w' => e = .returned (.bool true) ∧ Below w.heap.size w w' := by
  go_enter Tryd.func20, Tryd.ntmps20
  go_wp2_with fail
  refine (dist_any sA sB 1 1 _ (by decide) (by decide)).mono ?_
  rintro e w1 ⟨rfl, hb⟩
  have h1 := awake_dst
  have e1 : (if codeP sA sB 1 1 = 0 then ((dw (1 : Int).toNat (1 : Int).toNat sA.data.toList sB.data.toList).1 : Int) else 0) = 2 := by
    rw [if_pos h1.1]
    exact congrArg Int.ofNat h1.2
  rw [e1, h1.1]
  clear h1 e1
  go_wp2
  go_ret
  exact ⟨rfl, hb⟩
end Go.Proofs.YtmhlgnhfbickdaaDoor
