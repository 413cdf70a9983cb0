/-
  The walk of the law PrintNumbers. Conditions: the print's length is an int's.
-/
import Derived.Deep.Cut
import Derived.Deep.CutRange
import Derived.Test.YtmhlgnhfbickdaaDoorP25
namespace Go.Proofs.YtmhlgnhfbickdaaDoor
set_option linter.unusedVariables false
set_option linter.unusedSimpArgs false
open Go.RowKit Go.Shelf
theorem wf_u8 {a : Int} (h : (Lit.int .u8 a).wf = true) : 0 ≤ a ∧ a ≤ 255 := by
  have h2 : IntKind.min .u8 = 0 := rfl
  have h3 : IntKind.max .u8 = 255 := rfl
  simpa only [Lit.wf, h2, h3, Bool.and_eq_true, decide_eq_true_eq] using h
/-- are the first k peaks all the first one -/
def eqP (s : ByteArray) (k : Nat) : Bool := (s.data.toList.take k).all (fun y => y == s.data.toList.headD 0)
theorem eqP_zero (s : ByteArray) : eqP s 0 = true := by simp [eqP]
theorem eqP_succ {s : ByteArray} {k : Nat} (h : k < s.size) (h0 : 0 < s.size) : eqP s (k + 1) = (eqP s k && (s[k] == s[0])) := by
  unfold eqP
  rw [show s.data.toList.take (k + 1) = s.data.toList.take k ++ [s[k]] by rw [List.take_succ_eq_append_getElem (by simpa using h)]; rfl, List.all_append]
  have e : s.data.toList.headD 0 = s[0] := by
    rw [List.headD_eq_head?_getD, List.head?_eq_getElem?, List.getElem?_eq_getElem (by simpa using h0)]
    rfl
  rw [e]
  simp
theorem eqP_rws {s : ByteArray} (h : eqP s s.size = true) : rws s.data.toList = s.size + 1 := by
  have hl : s.data.toList.length = s.size := by simp
  unfold eqP at h
  rw [List.take_of_length_le (by omega), List.all_eq_true] at h
  have : s.data.toList = List.replicate s.size (s.data.toList.headD 0) := by
    rw [List.eq_replicate_iff]
    exact ⟨hl, fun b hb => by simpa using h b hb⟩
  rw [this, rws_same]
theorem rws_snoc {l : List UInt8} {x : UInt8} (hl : ∀ y ∈ l, y ∈ abc) (hx : x ∈ abc) : rws l < rws (l ++ [x]) ∧ rws (l ++ [x]) ≤ 2 * rws l := by
  have h1 := rws_rev abc abc_nodup l hl
  have h2 := rws_rev abc abc_nodup (l ++ [x]) (fun y hy => by rcases List.mem_append.1 hy with h | h; (· exact hl y h); (· obtain rfl := List.mem_singleton.1 h; exact hx))
  have h3 := rws_grow x l.reverse
  rw [List.reverse_append] at h2
  change rws (x :: l.reverse) = _ at h2
  omega
def lit8 : ByteArray := { data := #[97, 98, 99, 100, 101, 102, 103, 104] }
theorem lit8_at {q : Nat} (h : q < 8) : (lit8.extract q (q + 1)).data.toList = [abc.getD q 0] := by
  have : q = 0 ∨ q = 1 ∨ q = 2 ∨ q = 3 ∨ q = 4 ∨ q = 5 ∨ q = 6 ∨ q = 7 := by omega
  rcases this with rfl | rfl | rfl | rfl | rfl | rfl | rfl | rfl <;> rfl
theorem abc_getD_mem {q : Nat} (h : q < 8) : abc.getD q 0 ∈ abc := by
  have hl : q < abc.length := h
  rw [List.getD_eq_getElem?_getD, List.getElem?_eq_getElem hl]
  exact List.getElem_mem hl
theorem val_snoc {s P : ByteArray} {x : UInt8} (hs : valB s = true) (h19 : s.size < 20) (hP : P.data.toList = [x]) (hx : x ∈ abc) : valB (s ++ P) = true := by
  have h1 := valB_true.1 hs
  have hz : (s ++ P).data.toList.length = (s ++ P).size := by simp
  rw [append_list, hP, List.length_append] at hz
  have hl : s.data.toList.length = s.size := by simp
  simp only [List.length_cons, List.length_nil] at hz
  rw [valB_true, append_list, hP]
  refine ⟨by omega, fun b hb => ?_⟩
  rcases List.mem_append.1 hb with h | h
  · exact h1.2 b h
  · obtain rfl := List.mem_singleton.1 h
    rw [← abc_okb, List.contains_iff_mem]
    exact hx
set_option maxRecDepth 100000 in
set_option maxHeartbeats 4000000 in
theorem printNumbers_walk (s : ByteArray) (a : Int) (w : World) (hs : s.size ≤ 9223372036854775807) (ha : (Lit.int .u8 a).wf = true) :
    Calls Tryd.prog 8 #[.string s, .int .u8 a] w fun e w' => e = .returned (.bool true) ∧ Below w.heap.size w w' := by
  obtain ⟨ha0, ha1⟩ := wf_u8 ha
  clear ha
  by_cases h1 : (200 : Int) < (s.size : Int)
  · clear hs
    go_enter Tryd.func8, Tryd.ntmps8
    go_wp2_with (first | (go_at_call 29; refine (long_any _ _).mono ?_; rintro e w' ⟨rfl, rfl⟩) | (go_at_call 20; refine (awake_any _).mono ?_; rintro e w' ⟨rfl, hb⟩))
    go_ret
    exact ⟨rfl, hb⟩
  · have d1 : decide ((200 : Int) < (s.size : Int)) = false := by simpa using h1
    cases hv : valB s
    · have HV := hid hv
      have HS := hid hs
      clear hv hs h1
      go_enter Tryd.func8, Tryd.ntmps8
      go_wp2_with fail
      refine (long_any _ _).mono ?_
      rintro e w' ⟨rfl, rfl⟩
      rw [d1]
      go_wp2_with fail
      refine (rValid_any _ _ HS.out).mono ?_
      rintro e w' ⟨rfl, rfl⟩
      rw [HV.out]
      go_wp2_with (go_at_call 20; refine (awake_any _).mono ?_; rintro e w' ⟨rfl, hb⟩)
      go_ret
      exact ⟨rfl, hb⟩
    · have h20 := (valB_true.1 hv).1
      have HV := hid hv
      have HS := hid hs
      obtain ⟨N, hN⟩ : ∃ N, rws s.data.toList = N := ⟨_, rfl⟩
      have HR : Hid (∀ wx, Calls Tryd.prog 39 #[.string s] wx fun e w' => e = .returned (.tuple #[.int .i64 (N : Int), .int .i64 0]) ∧ Below wx.heap.size wx w') := hid fun wx => by
        have h := rows_any s wx HS.out
        unfold RowsR at h
        rw [(rowsV_yes HV.out).1, (rowsV_yes HV.out).2, hN] at h
        exact h
      have hn1 := rws_ge s.data.toList
      have hn2 := rws_small (l := s.data.toList) (by simpa using h20)
      have hn3 := rws_le s.data.toList
      have hlen : s.data.toList.length = s.size := by simp
      rw [hN] at hn1 hn2 hn3
      rw [hlen] at hn1 hn3
      have HN := hid hN
      have HL := hid hlen
      have z1 : (s.size : Int) + 1 ≤ (N : Int) := by omega
      have z2 : (N : Int) ≤ wrap64 (2 ^ s.size) := by
        have e : (2 : Int) ^ s.size = ((2 ^ s.size : Nat) : Int) := by simp
        have h3 : 2 ^ s.size ≤ 1048576 := Nat.pow_le_pow_right (n := 2) (by omega) h20
        rw [e, wrap_in (by omega) (by omega)]
        omega
      have HWY : Hid (∀ (wx : World) (p : Int), 1 ≤ p → p ≤ 9 → Calls Tryd.prog 31 #[.string s, .string s, .agg #[.int .i64 p, .int .i64 1]] wx fun e w' => e = .returned (.tuple #[.int .i64 1, .int .i64 0]) ∧ Below wx.heap.size wx w') := hid fun wx p hp1 hp9 => by
        have h := ways_any s s p 1 wx HS.out HS.out
        unfold numR at h
        have hc : codeP s s p 1 = 0 := codeP_ok HV.out HV.out (vcB_true.2 ⟨⟨hp1, hp9⟩, by omega⟩)
        rw [hc, if_pos rfl] at h
        have hw : (dw p.toNat (1 : Int).toNat s.data.toList s.data.toList).2 = 1 := wys_self (by omega) _
        have hw2 : (fun x : Nat × Nat => x.2) (dw p.toNat (1 : Int).toNat s.data.toList s.data.toList) = 1 := hw
        rw [hw2] at h
        exact h
      clear hN hlen hv hs h1 hn1 hn3
      go_enter Tryd.func8, Tryd.ntmps8
      go_wp2_with fail
      refine (long_any _ _).mono ?_
      rintro e w' ⟨rfl, rfl⟩
      rw [d1]
      go_wp2_with fail
      refine (rValid_any _ _ HS.out).mono ?_
      rintro e w' ⟨rfl, rfl⟩
      rw [HV.out]
      go_wp2_with fail
      refine (HR.out _).mono ?_
      rintro e w1 ⟨rfl, hb1⟩
      have K1 := hid hb1
      clear hb1
      go_wp2
      clear z2
      go_loopw [7, 43] (fun v x wr => ∃ k : Nat, k ≤ s.size ∧ x = .int .i64 (k : Int) ∧ v = .bool (eqP s k) ∧ Hid (Below w.heap.size w wr)) (fun _ x _ => s.size - (intOf x).toNat)
      case atStart => exact ⟨0, Nat.zero_le _, rfl, by rw [eqP_zero], K1⟩
      case round =>
        obtain ⟨k, hk, rfl, rfl, HW⟩ := hrel
        by_cases hlt : k < s.size
        · have h0 : 0 < s.size := by omega
          have h0' : (0 : Int) < (s.size : Int) := by omega
          have HSU := hid (eqP_succ hlt h0)
          cases he : eqP s k
          · have HE := hid he
            clear he
            go_wp2
            go_quiet (fail)
            go_wp2
            go_roundw
            case rel => exact ⟨k + 1, by omega, by go_num, by rw [HSU.out, HE.out]; rfl, hid (bdn HW.out _)⟩
            case measure => simp [intOf]; omega
          · have HE := hid he
            clear he
            by_cases hq : s[k] = s[0]
            · have d2 : ((s[k].toNat : Int) == (s[0].toNat : Int)) = true := by rw [hq]; simp
              have HQ := hid hq
              clear hq
              go_wp2
              go_quiet (fail)
              go_wp2
              go_roundw
              case rel => exact ⟨k + 1, by omega, by go_num, by rw [HSU.out, HE.out, HQ.out]; simp, hid (bdn HW.out _)⟩
              case measure => simp [intOf]; omega
            · have d2 : ((s[k].toNat : Int) == (s[0].toNat : Int)) = false := by
                simp only [beq_eq_false_iff_ne, ne_eq]
                exact fun h => hq (UInt8.toNat_inj.1 (by omega))
              have HQ := hid hq
              clear hq
              go_wp2
              go_quiet (fail)
              go_wp2
              go_roundw
              case rel => exact ⟨k + 1, by omega, by go_num, by rw [HSU.out, HE.out]; simpa using HQ.out, hid (bdn HW.out _)⟩
              case measure => simp [intOf]; omega
        · obtain rfl : k = s.size := by omega
          go_upto_region 12 with fail
          go_cut [7, 63] from 56 to 63 (fun x v wd => v = .bool false ∧ wd = wr)
          case first =>
            cases he : eqP s s.size
            · clear he
              go_wp2
              go_meet
              exact ⟨rfl, rfl⟩
            · have hN2 := eqP_rws he
              rw [HN.out] at hN2
              have z3 : ((N : Int) != (s.size : Int) + 1) = false := by simp; omega
              clear he hN2
              go_wp2
              go_meet
              exact ⟨rfl, rfl⟩
          case rest =>
            obtain ⟨rfl, rfl⟩ := hcut
            obtain ⟨q, hq⟩ : ∃ q : Nat, a % 8 = (q : Int) := ⟨(a % 8).toNat, by omega⟩
            have hq8 : q < 8 := by omega
            have HQ := hid hq
            clear hq
            go_wp2_with fail
            refine (HWY.out _ _ (by omega) (by omega)).mono ?_
            rintro e w2 ⟨rfl, hb2⟩
            have K2 := hid (btr HW.out hb2 HW.out.size)
            clear hb2
            by_cases h19 : s.size = 20
            · have g1 : (20 : Int) ≤ (s.size : Int) := by omega
              clear h19
              go_wp2_with (go_at_call 20; refine (awake_any _).mono ?_; rintro e w3 ⟨rfl, hb⟩)
              go_ret
              exact ⟨rfl, btr K2.out hb K2.out.size⟩
            · have g1 : (s.size : Int) < 20 := by omega
              have hq := HQ.out
              have hsnoc := rws_snoc (l := s.data.toList) (x := abc.getD q 0) (abc_mem HV.out) (abc_getD_mem hq8)
              rw [HN.out] at hsnoc
              obtain ⟨M, hM⟩ : ∃ M, rws (s.data.toList ++ [abc.getD q 0]) = M := ⟨_, rfl⟩
              rw [hM] at hsnoc
              have hval := val_snoc (P := lit8.extract q (q + 1)) HV.out (by omega) (lit8_at hq8) (abc_getD_mem hq8)
              have HRM : Hid (∀ wx, Calls Tryd.prog 39 #[.string (s ++ lit8.extract q (q + 1))] wx fun e w' => e = .returned (.tuple #[.int .i64 (M : Int), .int .i64 0]) ∧ Below wx.heap.size wx w') := hid fun wx => by
                have h := rows_any (s ++ lit8.extract q (q + 1)) wx (by have := (valB_true.1 hval).1; omega)
                unfold RowsR at h
                rw [(rowsV_yes hval).1, (rowsV_yes hval).2, append_list, lit8_at hq8, hM] at h
                exact h
              have y1 : (N : Int) < (M : Int) := by omega
              have y2 : (M : Int) ≤ 2 * (N : Int) := by omega
              clear hM hval hsnoc h19
              go_wp2_with fail
              refine (HRM.out _).mono ?_
              rintro e w3 ⟨rfl, hb3⟩
              have K3 := hid (btr K2.out hb3 K2.out.size)
              clear hb3
              go_wp2_with (go_at_call 20; refine (awake_any _).mono ?_; rintro e w4 ⟨rfl, hb⟩)
              go_ret
              exact ⟨rfl, btr K3.out hb K3.out.size⟩
end Go.Proofs.YtmhlgnhfbickdaaDoor
