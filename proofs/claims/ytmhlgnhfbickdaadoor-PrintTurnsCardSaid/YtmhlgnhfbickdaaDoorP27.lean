/-
  The walk of the law PrintTurns. Conditions: the prints' lengths are int's.
-/
import Derived.Test.YtmhlgnhfbickdaaDoorP22
import Derived.Test.YtmhlgnhfbickdaaDoorP26
namespace Go.Proofs.YtmhlgnhfbickdaaDoor
set_option linter.unusedVariables false
set_option linter.unusedSimpArgs false
open Go.RowKit Go.Shelf

theorem ways_ok (s t : ByteArray) (p c : Nat) (w : World) (h1 : valB s = true) (h2 : valB t = true) (h3 : vcB (p : Int) (c : Int) = true) :
    Calls Tryd.prog 31 #[.string s, .string t, .agg #[.int .i64 (p : Int), .int .i64 (c : Int)]] w fun e w' => e = .returned (.tuple #[.int .i64 (wys p c s.data.toList t.data.toList : Int), .int .i64 0]) ∧ Below w.heap.size w w' := by
  have hz := codeP_ok h1 h2 h3
  have s1 := (valB_true.1 h1).1
  have s2 := (valB_true.1 h2).1
  have h := ways_any s t (p : Int) (c : Int) w (by omega) (by omega)
  unfold numR at h
  rw [hz, if_pos rfl] at h
  exact h
theorem rows_ok (s : ByteArray) (w : World) (h1 : valB s = true) : Calls Tryd.prog 39 #[.string s] w fun e w' => e = .returned (.tuple #[.int .i64 (rws s.data.toList : Int), .int .i64 0]) ∧ Below w.heap.size w w' := by
  have s1 := (valB_true.1 h1).1
  have h := rows_any s w (by omega)
  unfold RowsR at h
  rw [(rowsV_yes h1).1, (rowsV_yes h1).2] at h
  exact h

set_option maxRecDepth 100000 in
set_option maxHeartbeats 4000000 in
theorem printTurns_walk (s t : ByteArray) (p c a : Int) (w : World) (hs : s.size ≤ 9223372036854775807) (ht : t.size ≤ 9223372036854775807) (ha : (Lit.int .u8 a).wf = true) :
    Calls Tryd.prog 7 #[.string s, .string t, .agg #[.int .i64 p, .int .i64 c], .int .u8 a] w fun e w' => e = .returned (.bool true) ∧ Below w.heap.size w w' := by
  obtain ⟨ha0, ha1⟩ := wf_u8 ha
  have hb0 := hid (((box_bel w (.cells #[.int .i64 p, .int .i64 c] 24))).trans ((box_bel _ (.cells #[.string s, .string t] 9)).mono (by simp)))
  have HB := hid ((Blk.new w 24 #[.int .i64 p, .int .i64 c]).alloc (.cells #[.string s, .string t] 9))
  have HSS := hid (two_at w s t (.cells #[.int .i64 p, .int .i64 c] 24) hs ht)
  clear ha
  cases hask : askB 2 (two s t) p c
  · have HA := hid hask
    clear hask hs ht
    go_enter Tryd.func7, Tryd.ntmps7
    go_wp2_with fail
    refine (lawAsked_any _ _ _ (two s t) p c _ HSS.out).mono ?_
    rintro e w1 ⟨rfl, hb1⟩
    rw [HA.out]
    have K1 := hid (btr hb0.out hb1 hb0.out.size)
    clear hb1
    go_wp2_with (go_at_call 20; refine (awake_any _).mono ?_; rintro e w2 ⟨rfl, hb2⟩)
    go_ret
    exact ⟨rfl, btr K1.out hb2 K1.out.size⟩
  · obtain ⟨v1, v2, v3⟩ := ask2 hask
    have HA := hid hask
    have hr := vcB_true.1 v3
    obtain ⟨p, rfl⟩ : ∃ p' : Nat, p = (p' : Int) := ⟨p.toNat, by omega⟩
    obtain ⟨c, rfl⟩ : ∃ c' : Nat, c = (c' : Int) := ⟨c.toNat, by omega⟩
    have u1 : valB (revB s) = true := (revB_val s).trans v1
    have u2 : valB (revB t) = true := (revB_val t).trans v2
    have s1 := (valB_true.1 v1).1
    have s2 := (valB_true.1 v2).1
    have HV1 := hid v1
    have HV2 := hid v2
    have HV3 := hid v3
    obtain ⟨d, hd⟩ : ∃ d, dst p c s.data.toList t.data.toList = d := ⟨_, rfl⟩
    obtain ⟨n, hn⟩ : ∃ n, wys p c s.data.toList t.data.toList = n := ⟨_, rfl⟩
    obtain ⟨N, hN⟩ : ∃ N, rws s.data.toList = N := ⟨_, rfl⟩
    have DD : Hid (∀ wx, Calls Tryd.prog 28 #[.string s, .string t, .agg #[.int .i64 (p : Int), .int .i64 (c : Int)]] wx fun e w' => e = .returned (.tuple #[.int .i64 (d : Int), .int .i64 0]) ∧ Below wx.heap.size wx w') := hid fun wx => by
      have h := dist_ok s t p c wx v1 v2 v3
      rw [hd] at h; exact h
    have DR : Hid (∀ wx, Calls Tryd.prog 28 #[.string (revB s), .string (revB t), .agg #[.int .i64 (p : Int), .int .i64 (c : Int)]] wx fun e w' => e = .returned (.tuple #[.int .i64 (d : Int), .int .i64 0]) ∧ Below wx.heap.size wx w') := hid fun wx => by
      have h := dist_ok (revB s) (revB t) p c wx u1 u2 v3
      rw [revB_list, revB_list, dst_rev, hd] at h; exact h
    have WW : Hid (∀ wx, Calls Tryd.prog 31 #[.string s, .string t, .agg #[.int .i64 (p : Int), .int .i64 (c : Int)]] wx fun e w' => e = .returned (.tuple #[.int .i64 (n : Int), .int .i64 0]) ∧ Below wx.heap.size wx w') := hid fun wx => by
      have h := ways_ok s t p c wx v1 v2 v3
      rw [hn] at h; exact h
    have WR : Hid (∀ wx, Calls Tryd.prog 31 #[.string (revB s), .string (revB t), .agg #[.int .i64 (p : Int), .int .i64 (c : Int)]] wx fun e w' => e = .returned (.tuple #[.int .i64 (n : Int), .int .i64 0]) ∧ Below wx.heap.size wx w') := hid fun wx => by
      have h := ways_ok (revB s) (revB t) p c wx u1 u2 v3
      rw [revB_list, revB_list, wys_rev, hn] at h; exact h
    have RR : Hid (∀ wx, Calls Tryd.prog 39 #[.string s] wx fun e w' => e = .returned (.tuple #[.int .i64 (N : Int), .int .i64 0]) ∧ Below wx.heap.size wx w') := hid fun wx => by
      have h := rows_ok s wx v1
      rw [hN] at h; exact h
    have RB : Hid (∀ wx, Calls Tryd.prog 39 #[.string (revB s)] wx fun e w' => e = .returned (.tuple #[.int .i64 (N : Int), .int .i64 0]) ∧ Below wx.heap.size wx w') := hid fun wx => by
      have h := rows_ok (revB s) wx u1
      rw [revB_list, rws_rev abc abc_nodup _ (abc_mem v1), hN] at h; exact h
    have hn1 : 1 ≤ (n : Int) := by have := wys_pos (p := p) (c := c) s.data.toList t.data.toList; omega
    have HD := hid hd
    clear hask v1 v2 v3 u1 u2 hs ht hd hn hN
    go_enter Tryd.func7, Tryd.ntmps7
    go_wp2_with fail
    refine (lawAsked_any _ _ _ (two s t) _ _ _ HSS.out).mono ?_
    rintro e w1 ⟨rfl, hb⟩
    rw [HA.out]
    have K1 := hid (btr hb0.out hb hb0.out.size)
    have B1 := hid (HB.out.below' hb)
    have c0 := B1.out.cell 0
    have c1 := B1.out.cell 1
    simp only [List.getElem?_toArray, List.getElem?_cons_zero, List.getElem?_cons_succ] at c0 c1
    clear hb
    go_wp2_with fail
    refine (DD.out _).mono ?_
    rintro e w2 ⟨rfl, hb⟩
    have K2 := hid (btr K1.out hb K1.out.size)
    have B2 := hid (B1.out.below' hb)
    clear hb c0 c1
    have hl2 := B2.out.lt
    have e0 := B2.out.cell 0
    have e1 := B2.out.cell 1
    simp only [List.getElem?_toArray, List.getElem?_cons_zero, List.getElem?_cons_succ] at e0 e1
    have g0 := Later.cells (B := w2.heap.size) (w := w2) e0 hl2
    have g1 := Later.cells (B := w2.heap.size) (w := w2) e1 hl2
    clear e0 e1
    have A1 := hid fun x : Later w2.heap.size w2 => Calls.later_of (v := .string (revB s)) (x := x) (Nat.le_refl _) ((turned_any s x.up s1).mono fun e w' h => ⟨h.1, by obtain rfl := h.2; exact Below.refl _ _⟩)
    have A2 := hid fun x : Later w2.heap.size w2 => Calls.later_of (v := .string (revB t)) (x := x) (Nat.le_refl _) ((turned_any t x.up s2).mono fun e w' h => ⟨h.1, by obtain rfl := h.2; exact Below.refl _ _⟩)
    have A3 := hid fun x : Later w2.heap.size w2 => Calls.later_of (v := .tuple #[.int .i64 (d : Int), .int .i64 0]) (x := x) (Nat.le_refl _) (DR.out x.up)
    go_wp2_with fail
    refine wp_region_later w2.heap.size (by kernel_rfl) (by kernel_rfl) ?_
    repeat (go_big_quiet_step ((first | (go_at_call_of 38 (Value.string s); exact A1.out _) | (go_at_call_of 38 (Value.string t); exact A2.out _) | (go_at_call 28; exact A3.out _))))
    refine wpQuiet_nil ?_
    rintro _ ⟨⟨w3, hb3⟩, rfl⟩
    have K3 := hid (btr K2.out hb3 K2.out.size)
    have B3 := hid (B2.out.below' hb3)
    clear A1 A2 A3 g0 g1 hb3 hl2
    have c0 := B3.out.cell 0
    have c1 := B3.out.cell 1
    simp only [List.getElem?_toArray, List.getElem?_cons_zero, List.getElem?_cons_succ] at c0 c1
    go_wp2_with fail
    refine (WW.out _).mono ?_
    rintro e w4 ⟨rfl, hb⟩
    have K4 := hid (btr K3.out hb K3.out.size)
    have B4 := hid (B3.out.below' hb)
    clear hb c0 c1
    have hl2 := B4.out.lt
    have e0 := B4.out.cell 0
    have e1 := B4.out.cell 1
    simp only [List.getElem?_toArray, List.getElem?_cons_zero, List.getElem?_cons_succ] at e0 e1
    have g0 := Later.cells (B := w4.heap.size) (w := w4) e0 hl2
    have g1 := Later.cells (B := w4.heap.size) (w := w4) e1 hl2
    clear e0 e1
    have A1 := hid fun x : Later w4.heap.size w4 => Calls.later_of (v := .string (revB s)) (x := x) (Nat.le_refl _) ((turned_any s x.up s1).mono fun e w' h => ⟨h.1, by obtain rfl := h.2; exact Below.refl _ _⟩)
    have A2 := hid fun x : Later w4.heap.size w4 => Calls.later_of (v := .string (revB t)) (x := x) (Nat.le_refl _) ((turned_any t x.up s2).mono fun e w' h => ⟨h.1, by obtain rfl := h.2; exact Below.refl _ _⟩)
    have A3 := hid fun x : Later w4.heap.size w4 => Calls.later_of (v := .tuple #[.int .i64 (n : Int), .int .i64 0]) (x := x) (Nat.le_refl _) (WR.out x.up)
    go_wp2_with fail
    refine wp_region_later w4.heap.size (by kernel_rfl) (by kernel_rfl) ?_
    repeat (go_big_quiet_step ((first | (go_at_call_of 38 (Value.string s); exact A1.out _) | (go_at_call_of 38 (Value.string t); exact A2.out _) | (go_at_call 31; exact A3.out _))))
    refine wpQuiet_nil ?_
    rintro _ ⟨⟨w5, hb5⟩, rfl⟩
    have K5 := hid (btr K4.out hb5 K4.out.size)
    have B5 := hid (B4.out.below' hb5)
    clear A1 A2 A3 g0 g1 hb5 hl2
    go_wp2_with fail
    refine (RR.out _).mono ?_
    rintro e w6 ⟨rfl, hb⟩
    have K6 := hid (btr K5.out hb K5.out.size)
    have B6 := hid (B5.out.below' hb)
    clear hb
    go_wp2_with (go_at_call 38; refine (turned_any _ _ s1).mono ?_; rintro e w' ⟨rfl, rfl⟩)
    refine (RB.out _).mono ?_
    rintro e w7 ⟨rfl, hb⟩
    have K7 := hid (btr K6.out hb K6.out.size)
    have B7 := hid (B6.out.below' hb)
    clear hb
    by_cases h1 : s.size = 20
    · have g1 : (20 : Int) ≤ (s.size : Int) := by omega
      clear h1
      go_wp2_with (go_at_call 20; refine (awake_any _).mono ?_; rintro e w8 ⟨rfl, hb⟩)
      go_ret
      exact ⟨rfl, btr K7.out hb K7.out.size⟩
    · have g1 : (s.size : Int) < 20 := by omega
      by_cases h2 : t.size = 20
      · have g2 : (20 : Int) ≤ (t.size : Int) := by omega
        clear h1 h2
        go_wp2_with (go_at_call 20; refine (awake_any _).mono ?_; rintro e w8 ⟨rfl, hb⟩)
        go_ret
        exact ⟨rfl, btr K7.out hb K7.out.size⟩
      · have g2 : (t.size : Int) < 20 := by omega
        obtain ⟨q, hq⟩ : ∃ q : Nat, a % 8 = (q : Int) := ⟨(a % 8).toNat, by omega⟩
        have hq8 : q < 8 := by omega
        have x1 := val_snoc (P := lit8.extract q (q + 1)) HV1.out (by omega) (lit8_at hq8) (abc_getD_mem hq8)
        have x2 := val_snoc (P := lit8.extract q (q + 1)) HV2.out (by omega) (lit8_at hq8) (abc_getD_mem hq8)
        have hle := dst_snoc_le (p := p) (c := c) (abc.getD q 0) s.data.toList t.data.toList
        rw [HD.out] at hle
        obtain ⟨d2, hd2⟩ : ∃ d2, dst p c (s.data.toList ++ [abc.getD q 0]) (t.data.toList ++ [abc.getD q 0]) = d2 := ⟨_, rfl⟩
        rw [hd2] at hle
        have DS : Hid (∀ wx, Calls Tryd.prog 28 #[.string (s ++ lit8.extract q (q + 1)), .string (t ++ lit8.extract q (q + 1)), .agg #[.int .i64 (p : Int), .int .i64 (c : Int)]] wx fun e w' => e = .returned (.tuple #[.int .i64 (d2 : Int), .int .i64 0]) ∧ Below wx.heap.size wx w') := hid fun wx => by
          have h := dist_ok (s ++ lit8.extract q (q + 1)) (t ++ lit8.extract q (q + 1)) p c wx x1 x2 HV3.out
          rw [append_list, append_list, lit8_at hq8, hd2] at h; exact h
        have hle2 : (d2 : Int) ≤ (d : Int) := by omega
        have c0 := B7.out.cell 0
        have c1 := B7.out.cell 1
        simp only [List.getElem?_toArray, List.getElem?_cons_zero, List.getElem?_cons_succ] at c0 c1
        clear x1 x2 hle hd2 h1 h2
        go_wp2_with fail
        refine (DS.out _).mono ?_
        rintro e w8 ⟨rfl, hb⟩
        have K8 := hid (btr K7.out hb K7.out.size)
        clear hb c0 c1
        go_wp2_with (go_at_call 20; refine (awake_any _).mono ?_; rintro e w9 ⟨rfl, hb⟩)
        go_ret
        exact ⟨rfl, btr K8.out hb K8.out.size⟩
end Go.Proofs.YtmhlgnhfbickdaaDoor
