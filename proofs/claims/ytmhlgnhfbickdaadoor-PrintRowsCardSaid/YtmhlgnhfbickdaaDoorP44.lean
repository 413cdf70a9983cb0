/-
  The longest common row that comes first: the reference; IsCommon of both. Conditions: stated at each.
-/
import Derived.Test.YtmhlgnhfbickdaaDoorP22
import Derived.Test.YtmhlgnhfbickdaaDoorP25
import Derived.Test.YtmhlgnhfbickdaaDoorP29
import Derived.Test.YtmhlgnhfbickdaaDoorP43
namespace Go.Proofs.YtmhlgnhfbickdaaDoor
set_option linter.unusedVariables false
set_option linter.unusedSimpArgs false
open Go.RowKit Go.Shelf

set_option maxHeartbeats 1000000 in
/-- skimmerref09.long -/
theorem long9_any (s t : ByteArray) (w : World) (hs : s.size ≤ 20) (ht : t.size ≤ 20) :
    Calls Tryd.prog 101 #[.string s, .string t] w fun e w' => e = .returned (.int .i64 (lcs s.data.toList t.data.toList : Int)) ∧ Below w.heap.size w w' := by
  have h1 := dst_lcs (p := 1) (c := 2) (by omega) s.data.toList t.data.toList
  have m1 : s.data.toList.length = s.size := by simp
  have m2 : t.data.toList.length = t.size := by simp
  rw [m1, m2] at h1
  have HLF := hid fun wx => left0_any s t 1 2 wx hs ht (by omega) (by omega)
  obtain ⟨z, hz⟩ : ∃ z, dst 1 2 s.data.toList t.data.toList = z := ⟨_, rfl⟩
  obtain ⟨l, hl⟩ : ∃ l, lcs s.data.toList t.data.toList = l := ⟨_, rfl⟩
  rw [hz] at h1 HLF
  rw [hl] at h1
  rw [hl]
  clear hz hl m1 m2
  have e1 : (s.size : Int) + (t.size : Int) - (z : Int) = 2 * (l : Int) := by omega
  have hq : z ≤ 40 := by omega
  have hl40 : l ≤ 20 := by omega
  go_enter Tryd.func101, Tryd.ntmps101
  go_wp2_with fail
  refine (HLF.out _).mono ?_
  rintro e w3 ⟨B, Y, ns, nt, g0, rfl, x1, x2, hbl⟩
  have i1 : (0 : Int) < (ns : Int) + 1 := by omega
  have i2 : (0 : Int) < (nt : Int) + 1 := by omega
  have HB := hid hbl
  have H1 := hid h1
  clear hbl HLF h1
  go_wp2
  go_ret
  exact ⟨rfl, HB.out⟩

theorem ret_str {a b : ByteArray} (h : a = b) : Ending.returned (.string a) = .returned (.string b) := by rw [h]
theorem suf_at {s' : ByteArray} {S : List UInt8} {a n : Nat} (h : s'.data.toList = S.drop a) : (s'.extract (n + 1) s'.size).data.toList = S.drop (a + n + 1) := by rw [Lib.extract_to_end, h, List.drop_drop]; congr 1
theorem one_conv (b : UInt8) (W : World) : (convert 99 9 (.slice (some ⟨W.heap.size, 0, none⟩) 1 1)).run Tryd.prog (W.alloc (.cells #[.int .u8 (b.toNat : Int)] 5)) = .ok (.string ⟨#[b]⟩) (W.alloc (.cells #[.int .u8 (b.toNat : Int)] 5)) := by
  refine run_convert_bytes_back (W.alloc (.cells #[.int .u8 (b.toNat : Int)] 5)) 99 9 5 ⟨W.heap.size, 0, none⟩ 1 [b] Tryd.underlying99 Tryd.underlying5 Tryd.underlying9 fun j hj => ?_
  have hj0 : j = 0 := by simpa using hj
  subst hj0
  exact (Blk.new W 5 #[.int .u8 (b.toNat : Int)]).cell 0
theorem str_snoc (pre : List UInt8) (b : UInt8) : (⟨pre.toArray⟩ : ByteArray) ++ ⟨#[b]⟩ = ⟨(pre ++ [b]).toArray⟩ := by
  apply ByteArray.ext
  simp
theorem nxt_find {S : List UInt8} {a : Nat} {x : UInt8} {l : List UInt8} (hl : l = S.drop a) (ha : a ≤ S.length) : (fnd l x < l.length ↔ nxt S a x < S.length) ∧ a + fnd l x = nxt S a x := by
  subst hl
  unfold nxt
  simp only [List.length_drop]
  exact ⟨by omega, True.intro⟩
set_option maxRecDepth 100000 in
set_option maxHeartbeats 4000000 in
/-- skimmerref09.common -/
theorem rcommon_any (s t : ByteArray) (w : World) (v1 : valB s = true) (v2 : valB t = true) :
    Calls Tryd.prog 78 #[.string s, .string t] w fun e w' => e = .returned (.string (comB s t)) ∧ Below w.heap.size w w' := by
  have hs := (valB_true.1 v1).1
  have ht := (valB_true.1 v2).1
  have HAB := hid (abc_mem v1)
  have m1 : s.data.toList.length = s.size := by simp
  have m2 : t.data.toList.length = t.size := by simp
  have HM := hid (And.intro m1 m2)
  have HL0 := hid fun wx => long9_any s t wx hs ht
  clear v1 v2 m1 m2
  go_enter Tryd.func78, Tryd.ntmps78
  go_wp2_with fail
  refine (HL0.out _).mono ?_
  rintro e w1 ⟨rfl, hb⟩
  have HB := hid hb
  clear hb HL0
  go_wp2
  go_loopg [0, 1, 5, 6] (lcA s.data.toList t.data.toList 0 0) (fun gn x y z v wr => ∃ (s' t' o : ByteArray) (a b : Nat) (pre : List UInt8), a ≤ s.size ∧ b ≤ t.size ∧ lcA s.data.toList t.data.toList a b = gn ∧ x = .string s' ∧ y = .string t' ∧ z = .int .i64 (gn : Int) ∧ v = .string o ∧ Hid (o.data.toList = pre) ∧ Hid (s'.data.toList = s.data.toList.drop a) ∧ Hid (t'.data.toList = t.data.toList.drop b) ∧ Hid (cmA s.data.toList t.data.toList 0 0 = pre ++ cmA s.data.toList t.data.toList a b) ∧ Hid (Below w.heap.size w wr))
  case atStart => exact ⟨s, t, ⟨#[]⟩, 0, 0, [], by omega, by omega, rfl, rfl, rfl, rfl, rfl, hid rfl, hid rfl, hid rfl, hid rfl, HB⟩
  case round =>
    obtain ⟨s', t', o, a, b, pre, ha, hb, hgn, rfl, rfl, rfl, rfl, HO, HS, HT, HP, HW⟩ := hrel
    clear HB
    obtain ⟨gl, rfl⟩ : ∃ gl, gl = gk := ⟨_, rfl⟩
    have HGN := hid hgn
    have hg40 : gl ≤ 40 := by rw [← hgn]; have := lcA_len s.data.toList t.data.toList a b; rw [HM.out.1, HM.out.2] at this; omega
    have ls' : s'.size = s.size - a := by
      have h := congrArg List.length HS.out
      rw [List.length_drop, HM.out.1] at h
      simpa using h
    have lt' : t'.size = t.size - b := by
      have h := congrArg List.length HT.out
      rw [List.length_drop, HM.out.2] at h
      simpa using h
    have q20 : s'.size ≤ 20 := by omega
    have q21 : t'.size ≤ 20 := by omega
    have HLS := hid (And.intro ls' lt')
    clear hgn ls' lt'
    by_cases hg0 : gl = 0
    · subst hg0
      have HF : Hid (comB s t = o) := hid (bytes_ext (by show (cmA s.data.toList t.data.toList 0 0).toArray.toList = _; rw [HP.out, cmA_nil HGN.out, List.append_nil, HO.out]))
      go_wp2
      go_ret
      exact ⟨ret_str HF.out.symm, HW.out⟩
    · have hgp : (0 : Int) < (gl : Int) := by omega
      have hgp2 : 0 < gl := by omega
      have hos : ¬ 9223372036854775807 < o.size + 1 := by
        have h1 := (cmA_is (S := s.data.toList) (T := t.data.toList) (i := 0) (k := 0) HAB.out).1
        have h2 := lcA_len s.data.toList t.data.toList 0 0
        have h3 : o.data.toList.length = o.size := by simp
        rw [HP.out, List.length_append] at h1
        rw [HM.out.1, HM.out.2] at h2
        rw [HO.out] at h3
        omega
      go_wp2
      go_loopg [0, 1, 6, 7] 8 (fun ge x y v p wj => ∃ q : Nat, ge + q = 8 ∧ x = .string s' ∧ y = .string t' ∧ v = .string o ∧ p = .int .u8 (97 + (q : Int)) ∧ Hid (∀ j, j < q → pickB s.data.toList t.data.toList a b (abc.getD j 0) = false) ∧ Hid (Below w.heap.size w wj))
      case atStart => exact ⟨0, rfl, rfl, rfl, rfl, rfl, hid (by omega), HW⟩
      case round =>
        obtain ⟨q, hq, rfl, rfl, rfl, rfl, HN, HQ⟩ := hrel
        clear HW
        by_cases hq8 : q = 8
        · exfalso
          subst hq8
          obtain ⟨q, hq8, hp⟩ := pick_some (T := t.data.toList) (i := a) (k := b) HAB.out (by rw [HGN.out]; omega)
          rw [HN.out q hq8] at hp
          cases hp
        · have hq7 : q < 8 := by omega
          have hqc : (97 : Int) + (q : Int) ≤ 104 := by omega
          obtain ⟨pe, hpe⟩ : ∃ pe, abc.getD q 0 = pe := ⟨_, rfl⟩
          have hpn := abc_get hq7
          rw [hpe] at hpn
          have hpk := pickB_at (S := s.data.toList) (T := t.data.toList) (i := a) (k := b) (x := pe)
          have hp1 := pickB_no1 (S := s.data.toList) (T := t.data.toList) (i := a) (k := b) (x := pe)
          have hp2 := pickB_no2 (S := s.data.toList) (T := t.data.toList) (i := a) (k := b) (x := pe)
          have hlc := pick_next (S := s.data.toList) (T := t.data.toList) (i := a) (k := b) (x := pe)
          have hst := cmA_step (S := s.data.toList) (T := t.data.toList) (i := a) (k := b) hq7
          rw [hpe] at hst
          obtain ⟨f1, f2⟩ := nxt_find (x := pe) HS.out (by rw [HM.out.1]; exact ha)
          obtain ⟨f3, f4⟩ := nxt_find (x := pe) HT.out (by rw [HM.out.2]; exact hb)
          have hX := fun wx => find_any s' pe wx (by omega)
          have hY := fun wx => find_any t' pe wx (by omega)
          rw [hpn, show ((97 + q : Nat) : Int) = 97 + (q : Int) by omega] at hX hY
          have k1 : s'.data.toList.length = s'.size := by simp
          have k2 : t'.data.toList.length = t'.size := by simp
          unfold findI at hX hY
          rw [k1] at hX f1
          rw [k2] at hY f3
          rw [← f2, ← f4, HGN.out] at hpk
          rw [← f2] at hp1
          rw [← f4] at hp2
          rw [← f2, ← f4] at hst
          rw [← f2, ← f4] at hlc
          obtain ⟨nx, hnx⟩ : ∃ nx, fnd s'.data.toList pe = nx := ⟨_, rfl⟩
          obtain ⟨ny, hny⟩ : ∃ ny, fnd t'.data.toList pe = ny := ⟨_, rfl⟩
          rw [hnx] at hX hpk hp1 hst f1 f2 hlc
          rw [hny] at hY hpk hp2 hst f3 f4 hlc
          rw [← f2] at f1
          rw [← f4] at f3
          have HFF := hid (And.intro f1 f3)
          have HPK := hid (And.intro hpk (And.intro hp1 (And.intro hp2 hst)))
          have HLC := hid hlc
          have HPE := hid (And.intro hpe hpn)
          have HX := hid hX
          have HY := hid hY
          clear hpk hp1 hp2 hst hpe hpn hnx hny hlc f1 f2 f3 f4 hX hY k1 k2
          have n0 : decide ((nx : Int) < 0) = false := by simp
          have n1 : decide ((ny : Int) < 0) = false := by simp
          by_cases h1 : nx < s'.size
          · have H1 := hid (HFF.out.1.1 h1)
            by_cases h2 : ny < t'.size
            · have H2 := hid (HFF.out.2.1 h2)
              have HX2 : Hid (∀ wx, Calls Tryd.prog 80 #[.string s', .int .u8 (97 + (q : Int))] wx fun e w' => e = .returned (.int .i64 (nx : Int)) ∧ wx = w') := hid fun wx => by have h := HX.out wx; rw [if_pos h1] at h; exact h
              have HY2 : Hid (∀ wx, Calls Tryd.prog 80 #[.string t', .int .u8 (97 + (q : Int))] wx fun e w' => e = .returned (.int .i64 (ny : Int)) ∧ wx = w') := hid fun wx => by have h := HY.out wx; rw [if_pos h2] at h; exact h
              clear HX HY
              go_wp2_with fail
              refine (HX2.out _).mono ?_
              rintro e wx ⟨rfl, rfl⟩
              go_wp2_with fail
              refine (HY2.out _).mono ?_
              rintro e wx ⟨rfl, rfl⟩
              go_wp2
              have HLG : Hid (∀ wx, Calls Tryd.prog 101 #[.string (s'.extract (nx + 1) s'.size), .string (t'.extract (ny + 1) t'.size)] wx fun e w' => e = .returned (.int .i64 (lcA s.data.toList t.data.toList (a + nx + 1) (b + ny + 1) : Int)) ∧ Below wx.heap.size wx w') := hid fun wx => by
                have h := long9_any (s'.extract (nx + 1) s'.size) (t'.extract (ny + 1) t'.size) wx (by simp; omega) (by simp; omega)
                rw [suf_at HS.out, suf_at HT.out] at h
                exact h
              have hlc := HLC.out H1.out H2.out
              have hpk := HPK.out.1 H1.out H2.out
              obtain ⟨l1, hl1⟩ : ∃ l1, lcA s.data.toList t.data.toList (a + nx) (b + ny) = l1 := ⟨_, rfl⟩
              obtain ⟨l2, hl2⟩ : ∃ l2, lcA s.data.toList t.data.toList (a + nx + 1) (b + ny + 1) = l2 := ⟨_, rfl⟩
              rw [hl1, hl2] at hlc
              rw [hl1] at hpk
              rw [hl2] at HLG
              by_cases h3 : l1 = gl
              · have h3b : ((l2 : Int) != (gl : Int) - 1) = false := by simp; omega
                have HST := hid (HPK.out.2.2.2 (by rw [hpk, h3]; simp) (fun j hj => HN.out j hj))
                have HGL : Hid (l2 = gl - 1) := hid (by omega)
                have HL2 := hid hl2
                clear h3 hpk hl1 hl2 hlc
                have A1 := hid fun x : Later wr.heap.size wr => Calls.later_of (v := .int .i64 (l2 : Int)) (x := x) (Nat.le_refl _) (HLG.out x.up)
                refine wp_region_later wr.heap.size (by kernel_rfl) (by kernel_rfl) ?_
                repeat (go_big_quiet_step ((go_at_call 101; exact A1.out _)))
                refine wpQuiet_nil ?_
                rintro _ ⟨⟨w3, hb3⟩, rfl⟩
                have HQ3 := hid (btr HQ.out hb3 HQ.out.size)
                have hcv := one_conv pe
                rw [HPE.out.2, show ((97 + q : Nat) : Int) = 97 + (q : Int) by omega] at hcv
                clear hb3 A1 HLG
                go_wp2
                go_quiet (fail)
                go_wp2
                have g1' := H1.out
                have g2' := H2.out
                rw [HM.out.1] at g1'
                rw [HM.out.2] at g2'
                go_roundg (gl - 1)
                case measure => omega
                case rel =>
                  refine ⟨_, _, _, a + nx + 1, b + ny + 1, pre ++ [pe], by omega, by omega, HL2.out.trans HGL.out, rfl, rfl, ?_, rfl, hid ?_, hid (suf_at HS.out), hid (suf_at HT.out), hid ?_, hid (bdn (HQ3.out.alloc HQ3.out.size _) _)⟩
                  · exact congrArg (Value.int .i64) (by omega)
                  · rw [append_list, HO.out]
                  · rw [HP.out, HST.out, List.append_assoc]
                    rfl
              · have h3b : ((l2 : Int) != (gl : Int) - 1) = true := by simp; omega
                have HNO := hid (hpk.trans (decide_eq_false h3))
                clear h3 hpk hl1 hl2 hlc
                have A1 := hid fun x : Later wr.heap.size wr => Calls.later_of (v := .int .i64 (l2 : Int)) (x := x) (Nat.le_refl _) (HLG.out x.up)
                refine wp_region_later wr.heap.size (by kernel_rfl) (by kernel_rfl) ?_
                repeat (go_big_quiet_step ((go_at_call 101; exact A1.out _)))
                refine wpQuiet_nil ?_
                rintro _ ⟨⟨w3, hb3⟩, rfl⟩
                have HQ3 := hid (btr HQ.out hb3 HQ.out.size)
                clear hb3
                go_wp2
                go_roundg (gk - 1)
                case measure => omega
                case rel =>
                  refine ⟨q + 1, by omega, rfl, rfl, rfl, congrArg (Value.int .u8) (by omega), hid fun j hj => ?_, HQ3⟩
                  by_cases e : j = q
                  · subst e; rw [HPE.out.1]; exact HNO.out
                  · exact HN.out j (by omega)
            · have HNO := hid (HPK.out.2.2.1 (fun h => h2 (HFF.out.2.2 h)))
              have HX2 : Hid (∀ wx, Calls Tryd.prog 80 #[.string s', .int .u8 (97 + (q : Int))] wx fun e w' => e = .returned (.int .i64 (nx : Int)) ∧ wx = w') := hid fun wx => by have h := HX.out wx; rw [if_pos h1] at h; exact h
              have HY2 : Hid (∀ wx, Calls Tryd.prog 80 #[.string t', .int .u8 (97 + (q : Int))] wx fun e w' => e = .returned (.int .i64 (-1)) ∧ wx = w') := hid fun wx => by have h := HY.out wx; rw [if_neg h2] at h; exact h
              clear HX HY h2
              go_wp2_with fail
              refine (HX2.out _).mono ?_
              rintro e wx ⟨rfl, rfl⟩
              go_wp2_with fail
              refine (HY2.out _).mono ?_
              rintro e wx ⟨rfl, rfl⟩
              go_wp2
              refine wp_region_later wr.heap.size (by kernel_rfl) (by kernel_rfl) ?_
              repeat (go_big_quiet_step (fail))
              refine wpQuiet_nil ?_
              rintro _ ⟨⟨w3, hb3⟩, rfl⟩
              have HQ3 := hid (btr HQ.out hb3 HQ.out.size)
              clear hb3
              go_wp2
              go_roundg (gk - 1)
              case measure => omega
              case rel =>
                refine ⟨q + 1, by omega, rfl, rfl, rfl, congrArg (Value.int .u8) (by omega), hid fun j hj => ?_, HQ3⟩
                by_cases e : j = q
                · subst e; rw [HPE.out.1]; exact HNO.out
                · exact HN.out j (by omega)
          · have HNO := hid (HPK.out.2.1 (fun h => h1 (HFF.out.1.2 h)))
            have HX2 : Hid (∀ wx, Calls Tryd.prog 80 #[.string s', .int .u8 (97 + (q : Int))] wx fun e w' => e = .returned (.int .i64 (-1)) ∧ wx = w') := hid fun wx => by have h := HX.out wx; rw [if_neg h1] at h; exact h
            obtain ⟨kk, HY2⟩ : ∃ kk : Int, Hid (∀ wx, Calls Tryd.prog 80 #[.string t', .int .u8 (97 + (q : Int))] wx fun e w' => e = .returned (.int .i64 kk) ∧ wx = w') := ⟨_, hid HY.out⟩
            clear HX HY h1
            go_wp2_with fail
            refine (HX2.out _).mono ?_
            rintro e wx ⟨rfl, rfl⟩
            go_wp2_with fail
            refine (HY2.out _).mono ?_
            rintro e wx ⟨rfl, rfl⟩
            go_wp2
            refine wp_region_later wr.heap.size (by kernel_rfl) (by kernel_rfl) ?_
            repeat (go_big_quiet_step (fail))
            refine wpQuiet_nil ?_
            rintro _ ⟨⟨w3, hb3⟩, rfl⟩
            have HQ3 := hid (btr HQ.out hb3 HQ.out.size)
            clear hb3
            go_wp2
            go_roundg (gk - 1)
            case measure => omega
            case rel =>
              refine ⟨q + 1, by omega, rfl, rfl, rfl, congrArg (Value.int .u8) (by omega), hid fun j hj => ?_, HQ3⟩
              by_cases e : j = q
              · subst e; rw [HPE.out.1]; exact HNO.out
              · exact HN.out j (by omega)
set_option maxHeartbeats 1000000 in
/-- skimmerref09.Common -/
theorem rCommonF_any (s t : ByteArray) (w : World) (hs : s.size ≤ 9223372036854775807) (ht : t.size ≤ 9223372036854775807) :
    Calls Tryd.prog 51 #[.string s, .string t] w (CommonR w s t) := by
  cases v1 : valB s
  · have HF : Hid (codeV s t = 90) := hid (by unfold codeV; rw [v1]; rfl)
    have V1 := hid v1
    clear v1
    go_enter Tryd.func51, Tryd.ntmps51
    go_wp2_with fail
    refine (rValid_any s _ hs).mono ?_
    rintro e w1 ⟨rfl, rfl⟩
    rw [V1.out]
    go_wp2
    refine bodyPost_ret (v := .tuple #[.string ⟨#[]⟩, .int .i64 90]) (by simp [results, Tryd.results51, go_sem]) rfl ⟨by rw [HF.out]; rfl, Below.refl _ _⟩
  · cases v2 : valB t
    · have HF : Hid (codeV s t = 90) := hid (by unfold codeV; rw [v1, v2]; rfl)
      have V1 := hid v1
      have V2 := hid v2
      clear v1 v2
      go_enter Tryd.func51, Tryd.ntmps51
      go_wp2_with fail
      refine (rValid_any s _ hs).mono ?_
      rintro e w1 ⟨rfl, rfl⟩
      rw [V1.out]
      go_wp2_with fail
      refine (rValid_any t _ ht).mono ?_
      rintro e w1 ⟨rfl, rfl⟩
      rw [V2.out]
      go_wp2
      refine bodyPost_ret (v := .tuple #[.string ⟨#[]⟩, .int .i64 90]) (by simp [results, Tryd.results51, go_sem]) rfl ⟨by rw [HF.out]; rfl, Below.refl _ _⟩
    · have HF := hid (codeV_ok v1 v2)
      have V1 := hid v1
      have V2 := hid v2
      clear v1 v2
      go_enter Tryd.func51, Tryd.ntmps51
      go_wp2_with fail
      refine (rValid_any s _ hs).mono ?_
      rintro e w1 ⟨rfl, rfl⟩
      rw [V1.out]
      go_wp2_with fail
      refine (rValid_any t _ ht).mono ?_
      rintro e w1 ⟨rfl, rfl⟩
      rw [V2.out]
      go_wp2_with fail
      refine (rcommon_any s t _ V1.out V2.out).mono ?_
      rintro e w1 ⟨rfl, hb⟩
      have HB := hid hb
      clear hb
      go_wp2
      refine bodyPost_ret (v := .tuple #[.string (comB s t), .int .i64 0]) (by simp [results, Tryd.results51, go_sem]) rfl ⟨by rw [HF.out, if_pos rfl], HB.out⟩
/-- what IsCommon answers -/
def IsCR (w : World) (s t row : ByteArray) (e : Ending) (w' : World) : Prop :=
  e = .returned (.tuple #[.bool (isCV s t row).1, .int .i64 (isCV s t row).2]) ∧ Below w.heap.size w w'
set_option maxHeartbeats 2000000 in
/-- print.IsCommon -/
theorem isCommon_any (s t row : ByteArray) (w : World) (hs : s.size ≤ 9223372036854775807) (ht : t.size ≤ 9223372036854775807) (hr : row.size ≤ 9223372036854775807) :
    Calls Tryd.prog 45 #[.string s, .string t, .string row] w (IsCR w s t row) := by
  go_enter Tryd.func45, Tryd.ntmps45
  go_wp2_with fail
  refine (valid_any s _ hs).mono ?_
  rintro e w1 ⟨rfl, hb⟩
  have K1 := hid hb
  clear hb
  cases v1 : valB s
  · have HF := hid (isCV_bad (s := s) (t := t) (row := row) (.inl v1))
    clear v1
    go_wp2
    refine bodyPost_ret (v := .tuple #[.bool false, .int .i64 90]) (by simp [results, Tryd.results45, go_sem]) rfl ⟨by rw [HF.out], K1.out⟩
  · have V1 := hid v1
    clear v1
    go_wp2_with fail
    refine (valid_any t _ ht).mono ?_
    rintro e w2 ⟨rfl, hb⟩
    have K2 := hid (btr K1.out hb K1.out.size)
    clear hb
    cases v2 : valB t
    · have HF := hid (isCV_bad (s := s) (t := t) (row := row) (.inr (.inl v2)))
      clear v2
      go_wp2
      refine bodyPost_ret (v := .tuple #[.bool false, .int .i64 90]) (by simp [results, Tryd.results45, go_sem]) rfl ⟨by rw [HF.out], K2.out⟩
    · have V2 := hid v2
      clear v2
      go_wp2_with fail
      refine (valid_any row _ hr).mono ?_
      rintro e w3 ⟨rfl, hb⟩
      have K3 := hid (btr K2.out hb K2.out.size)
      clear hb
      cases v3 : valB row
      · have HF := hid (isCV_bad (s := s) (t := t) (row := row) (.inr (.inr v3)))
        clear v3
        go_wp2
        refine bodyPost_ret (v := .tuple #[.bool false, .int .i64 90]) (by simp [results, Tryd.results45, go_sem]) rfl ⟨by rw [HF.out], K3.out⟩
      · have HF := hid (isCV_ok V1.out V2.out v3)
        have s1 := (valB_true.1 V1.out).1
        have s2 := (valB_true.1 V2.out).1
        have s3 := (valB_true.1 v3).1
        clear v3
        go_wp2_with fail
        refine (within_any row s _ (by omega) (by omega)).mono ?_
        rintro e w4 ⟨rfl, rfl⟩
        cases h1 : wiB row s
        · have HF2 : Hid (isCV s t row = (false, 0)) := hid (by rw [HF.out, h1]; rfl)
          clear h1
          go_wp2
          refine bodyPost_ret (v := .tuple #[.bool false, .int .i64 0]) (by simp [results, Tryd.results45, go_sem]) rfl ⟨by rw [HF2.out], K3.out⟩
        · have HF2 : Hid (isCV s t row = (wiB row t, 0)) := hid (by rw [HF.out, h1]; rfl)
          clear h1
          go_wp2_with fail
          refine (within_any row t _ (by omega) (by omega)).mono ?_
          rintro e w4 ⟨rfl, rfl⟩
          go_wp2
          refine bodyPost_ret (v := .tuple #[.bool (wiB row t), .int .i64 0]) (by simp [results, Tryd.results45, go_sem]) rfl ⟨by rw [HF2.out], K3.out⟩
set_option maxHeartbeats 2000000 in
/-- skimmerref09.IsCommon -/
theorem rIsCommon_any (s t row : ByteArray) (w : World) (hs : s.size ≤ 9223372036854775807) (ht : t.size ≤ 9223372036854775807) (hr : row.size ≤ 9223372036854775807) :
    Calls Tryd.prog 52 #[.string s, .string t, .string row] w (IsCR w s t row) := by
  go_enter Tryd.func52, Tryd.ntmps52
  go_wp2_with fail
  refine (rValid_any s _ hs).mono ?_
  rintro e w1 ⟨rfl, rfl⟩
  cases v1 : valB s
  · have HF := hid (isCV_bad (s := s) (t := t) (row := row) (.inl v1))
    clear v1
    go_wp2
    refine bodyPost_ret (v := .tuple #[.bool false, .int .i64 90]) (by simp [results, Tryd.results52, go_sem]) rfl ⟨by rw [HF.out], Below.refl _ _⟩
  · have V1 := hid v1
    clear v1
    go_wp2_with fail
    refine (rValid_any t _ ht).mono ?_
    rintro e w2 ⟨rfl, rfl⟩
    cases v2 : valB t
    · have HF := hid (isCV_bad (s := s) (t := t) (row := row) (.inr (.inl v2)))
      clear v2
      go_wp2
      refine bodyPost_ret (v := .tuple #[.bool false, .int .i64 90]) (by simp [results, Tryd.results52, go_sem]) rfl ⟨by rw [HF.out], Below.refl _ _⟩
    · have V2 := hid v2
      clear v2
      go_wp2_with fail
      refine (rValid_any row _ hr).mono ?_
      rintro e w3 ⟨rfl, rfl⟩
      cases v3 : valB row
      · have HF := hid (isCV_bad (s := s) (t := t) (row := row) (.inr (.inr v3)))
        clear v3
        go_wp2
        refine bodyPost_ret (v := .tuple #[.bool false, .int .i64 90]) (by simp [results, Tryd.results52, go_sem]) rfl ⟨by rw [HF.out], Below.refl _ _⟩
      · have HF := hid (isCV_ok V1.out V2.out v3)
        have s1 := (valB_true.1 V1.out).1
        have s2 := (valB_true.1 V2.out).1
        have s3 := (valB_true.1 v3).1
        clear v3
        go_wp2_with fail
        refine (rWithin_any row s _ (by omega) (by omega)).mono ?_
        rintro e w4 ⟨rfl, hb⟩
        have K4 := hid hb
        clear hb
        cases h1 : wiB row s
        · have HF2 : Hid (isCV s t row = (false, 0)) := hid (by rw [HF.out, h1]; rfl)
          clear h1
          go_wp2
          refine bodyPost_ret (v := .tuple #[.bool false, .int .i64 0]) (by simp [results, Tryd.results52, go_sem]) rfl ⟨by rw [HF2.out], K4.out⟩
        · have HF2 : Hid (isCV s t row = (wiB row t, 0)) := hid (by rw [HF.out, h1]; rfl)
          clear h1
          go_wp2_with fail
          refine (rWithin_any row t _ (by omega) (by omega)).mono ?_
          rintro e w5 ⟨rfl, hb⟩
          have K5 := hid (btr K4.out hb K4.out.size)
          clear hb
          go_wp2
          refine bodyPost_ret (v := .tuple #[.bool (wiB row t), .int .i64 0]) (by simp [results, Tryd.results52, go_sem]) rfl ⟨by rw [HF2.out], K5.out⟩
end Go.Proofs.YtmhlgnhfbickdaaDoor
