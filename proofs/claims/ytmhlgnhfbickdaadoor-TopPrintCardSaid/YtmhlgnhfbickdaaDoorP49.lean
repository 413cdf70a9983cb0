/-
  Nearest and Within: both. Conditions: the prints lie in memory.
-/
import Derived.Test.YtmhlgnhfbickdaaDoorP48
namespace Go.Proofs.YtmhlgnhfbickdaaDoor
set_option linter.unusedVariables false
set_option linter.unusedSimpArgs false
open Go.RowKit Go.Shelf

theorem disC_zero {n : Nat} {ss : Nat → ByteArray} {s : ByteArray} {p c : Int} {right : Bool} (h : disC n ss s p c right = 0) : arB n ss = true ∧ valB s = true ∧ vcB p c = true ∧ right = true := by
  unfold disC at h
  split at h
  · rename_i h1
    rw [Bool.and_eq_true] at h1
    split at h
    · rename_i h2
      split at h
      · rename_i h3; exact ⟨h1.1, h1.2, h2, h3⟩
      · cases h
    · cases h
  · cases h
theorem disC_right {n : Nat} {ss : Nat → ByteArray} {s : ByteArray} {p c : Int} {right : Bool} (h : disC n ss s p c true ≠ 0) : disC n ss s p c right = disC n ss s p c true := by
  unfold disC at h ⊢
  by_cases h1 : (arB n ss && valB s) = true
  · rw [if_pos h1, if_pos h1] at *
    by_cases h2 : vcB p c = true
    · rw [if_pos h2] at h; exact absurd rfl h
    · rw [if_neg h2, if_neg h2]
  · rw [if_neg h1, if_neg h1]
theorem ints_shape {w : World} {A : Option Addr} {m cap : Nat} {l : List Int} (h : IntsV w (.slice A m cap) l) : m = l.length := by
  obtain ⟨A', cap', he, _⟩ := h
  simp only [Value.slice.injEq] at he
  exact he.2.1
def nearI (code : Int) (l : List Int) : Int := if code = 0 then (bI l : Int) else 0
def nearM (code : Int) (l : List Int) : Int := if code = 0 then bV l else 0
/-- what Nearest and Middle answer -/
def NearR (w : World) (code : Int) (l : List Int) (e : Ending) (w' : World) : Prop := e = .returned (.tuple #[.int .i64 (nearI code l), .int .i64 (nearM code l), .int .i64 code]) ∧ Below w.heap.size w w'
set_option maxHeartbeats 2000000 in
/-- Nearest -/
theorem nearest_any (A : Option Addr) (n cap : Nat) (ss : Nat → ByteArray) (s : ByteArray) (p c : Int) (w : World) (hss : StrsAt w A n ss) (hs : s.size ≤ 9223372036854775807) :
    Calls Tryd.prog 25 #[.slice A n cap, .string s, .agg #[.int .i64 p, .int .i64 c]] w (NearR w (disC n ss s p c true) (dsL n (dsF ss s p c))) := by
  have hb0 := hid (box_bel w (.cells #[.int .i64 p, .int .i64 c] 24))
  have HL := hid (hss.below hb0.out)
  have HS := hid hs
  clear hss hs
  obtain ⟨l, hl⟩ : ∃ l, dsL n (dsF ss s p c) = l := ⟨_, rfl⟩
  have HLN : Hid (l.length = n) := hid (by rw [← hl, dsL_len])
  have HDI := hid fun wx h => distances_any A n cap ss s p c true wx h HS.out
  rw [hl] at HDI ⊢
  clear hl
  go_enter Tryd.func25, Tryd.ntmps25
  go_wp2_with fail
  refine (HDI.out _ HL.out).mono ?_
  rintro e w1 ⟨A1, m, cap1, rfl, hv, hb⟩
  have K1 := hid (btr hb0.out hb hb0.out.size)
  clear hb hb0
  by_cases hz : disC n ss s p c true = 0
  · have hn := (arB_true (disC_zero hz).1).1
    rw [hz, if_pos rfl] at hv
    have hm := ints_shape hv
    have HZ := hid hz
    subst hm
    have HV := hid hv
    have hl0 : 0 < l.length := by have := HLN.out; omega
    rw [hz]
    clear hz hv
    have HLL := hid fun wx (h : IntsV wx (.slice A1 l.length cap1) l) => least_any l A1 cap1 wx hl0 h
    go_wp2_with fail
    refine (HLL.out _ HV.out).mono ?_
    rintro e w2 ⟨rfl, rfl⟩
    go_wp2
    refine bodyPost_ret (v := .tuple #[.int .i64 (bI l : Int), .int .i64 (bV l), .int .i64 0]) (by simp [results, Tryd.results25, go_sem]) rfl ⟨by unfold nearI nearM; rw [HZ.out, if_pos rfl, if_pos rfl], K1.out⟩
  · have HZ := hid hz
    have hne : (disC n ss s p c true != 0) = true := by simpa using hz
    clear hv hz
    go_wp2
    refine bodyPost_ret (v := .tuple #[.int .i64 0, .int .i64 0, .int .i64 (disC n ss s p c true)]) (by simp [results, Tryd.results25, go_sem]) rfl ⟨by unfold nearI nearM; rw [if_neg HZ.out, if_neg HZ.out], K1.out⟩
set_option maxHeartbeats 2000000 in
/-- skimmerref09.Nearest -/
theorem rNearest_any (A : Option Addr) (n cap : Nat) (ss : Nat → ByteArray) (s : ByteArray) (p c : Int) (w : World) (hss : StrsAt w A n ss) (hs : s.size ≤ 9223372036854775807) :
    Calls Tryd.prog 55 #[.slice A n cap, .string s, .agg #[.int .i64 p, .int .i64 c]] w (NearR w (disC n ss s p c true) (dsL n (dsF ss s p c))) := by
  have hb0 := hid (box_bel w (.cells #[.int .i64 p, .int .i64 c] 24))
  have HL := hid (hss.below hb0.out)
  have HS := hid hs
  clear hss hs
  obtain ⟨l, hl⟩ : ∃ l, dsL n (dsF ss s p c) = l := ⟨_, rfl⟩
  have HLN : Hid (l.length = n) := hid (by rw [← hl, dsL_len])
  have HDI := hid fun wx h => compared_any A n cap ss s p c wx h HS.out
  rw [hl] at HDI ⊢
  clear hl
  go_enter Tryd.func55, Tryd.ntmps55
  go_wp2_with fail
  refine (HDI.out _ HL.out).mono ?_
  rintro e w1 ⟨A1, m, cap1, rfl, hv, hb⟩
  have K1 := hid (btr hb0.out hb hb0.out.size)
  clear hb hb0
  by_cases hz : disC n ss s p c true = 0
  · have hn := (arB_true (disC_zero hz).1).1
    rw [hz, if_pos rfl] at hv
    have hm := ints_shape hv
    have HZ := hid hz
    subst hm
    have hl0 : 0 < l.length := by have := HLN.out; omega
    rw [hz]
    clear hz
    have HF := hid fun x : Later w1.heap.size w1 => Calls.later_of (v := .int .i64 (bI l : Int)) (x := x) (Nat.le_refl _) ((first_any l A1 cap1 x.up hl0 (hv.below x.bel)).mono fun e w' h => ⟨h.1, by obtain rfl := h.2; exact Below.refl _ _⟩)
    obtain ⟨A', cap', he, hn9, b, off, hlt, hA, hc⟩ := hv
    simp only [Value.slice.injEq, true_and] at he
    obtain ⟨rfl, rfl⟩ := he
    obtain rfl := hA hl0
    have hbi := (bestI_spec (bF l) l.length hl0).1
    have hcb : w1.cell? ⟨b, off + bI l, none⟩ = some (.int .i64 (l.getD (bI l) 0)) := hc (bI l) hbi
    have g0 := Later.cells (B := w1.heap.size) (w := w1) hcb (hlt hl0)
    have hbn : (bI l : Int) < (l.length : Int) := by have h := hbi; unfold bI; omega
    have HBV : Hid (bV l = bF l (bI l)) := hid rfl
    obtain ⟨bv, hbv⟩ : ∃ bv, l.getD (bI l) 0 = bv := ⟨_, rfl⟩
    have HBB : Hid (bV l = bv) := hid hbv
    rw [hbv] at g0
    obtain ⟨bi, hbi2⟩ : ∃ bi, bI l = bi := ⟨_, rfl⟩
    rw [hbi2] at g0 hbn HF
    have HBI := hid hbi2
    clear hc hcb hbv hbi2 hlt hA hbi
    obtain ⟨ln, hln⟩ : ∃ ln, l.length = ln := ⟨_, rfl⟩
    rw [hln] at HF hbn hn9 ⊢
    clear hln hl0
    go_wp2
    refine wp_region_later w1.heap.size (by kernel_rfl) (by kernel_rfl) ?_
    repeat (go_big_quiet_step ((go_at_call 82; exact HF.out _)))
    refine wpQuiet_nil ?_
    rintro _ ⟨⟨w3, hb3⟩, rfl⟩
    have K3 := hid (btr K1.out hb3 K1.out.size)
    clear hb3 g0
    go_wp2
    refine bodyPost_ret (v := .tuple #[.int .i64 (bi : Int), .int .i64 bv, .int .i64 0]) (by simp [results, Tryd.results55, go_sem]) rfl ⟨by unfold nearI nearM; rw [HZ.out, if_pos rfl, if_pos rfl, HBB.out, HBI.out], K3.out⟩
  · have HZ := hid hz
    have hne : (disC n ss s p c true != 0) = true := by simpa using hz
    clear hv hz
    go_wp2
    refine bodyPost_ret (v := .tuple #[.int .i64 0, .int .i64 0, .int .i64 (disC n ss s p c true)]) (by simp [results, Tryd.results55, go_sem]) rfl ⟨by unfold nearI nearM; rw [if_neg HZ.out, if_neg HZ.out], K1.out⟩
end Go.Proofs.YtmhlgnhfbickdaaDoor
