/-
  The law TopWindow: it returns true, whatever the input. Conditions: the rounds lie in memory.
-/
import Derived.Test.YtfabpkcgdblnbaaV24
import Derived.Test.YtfabpkcgdblnbaaR7
namespace Go.Proofs.Ytfabpkcgdblnbaa
set_option linter.unusedVariables false
set_option linter.unusedSimpArgs false
open Go.RowKit

theorem info40 : (Try.prog.info? 40).map (fun i => (i.zero, i.size, i.bytes)) = some (some (.agg #[.int .i64 0, .slice none 0 0]), 2, 32) := by kernel_rfl
set_option maxRecDepth 100000 in
theorem top_long (A : Option Addr) (n c : Nat) (ra re : Nat → Int) (x : Int) (w : World) (hr : RoundsAt w A n ra re) (hl : (40 : Int) < n) :
    Calls Try.prog 10 #[.slice A n c, .int .u32 x] w fun e w' => e = .returned (.bool true) ∧ Below w.heap.size w w' := by
  have HR := hid hr
  clear hr
  go_enter Try.func10, Try.ntmps10
  go_wp2_with (first
    | (go_at_call 18; refine (long_any _ _ _ _).mono ?_; rintro e w' ⟨rfl, rfl⟩)
    | (go_at_call 19; refine (awake_any _).mono ?_; rintro e w2 ⟨rfl, hb2⟩))
  go_ret
  exact ⟨rfl, hb2⟩
set_option maxRecDepth 100000 in
theorem top_badr (A : Option Addr) (n c : Nat) (ra re : Nat → Int) (x : Int) (w : World) (hr : RoundsAt w A n ra re) (hl : ¬ (40 : Int) < n) (hok : okB ra re n = false) :
    Calls Try.prog 10 #[.slice A n c, .int .u32 x] w fun e w' => e = .returned (.bool true) ∧ Below w.heap.size w w' := by
  have HR := hid hr
  have HO := hid hok
  clear hr hok
  go_enter Try.func10, Try.ntmps10
  go_wp2_with (first
    | (go_at_call 18; refine (long_any _ _ _ _).mono ?_; rintro e w' ⟨rfl, rfl⟩)
    | (go_at_call 28; refine (areRounds_any _ _ _ _ _ _ HR.out).mono ?_; rintro e w1 ⟨rfl, hb1⟩; rw [HO.out])
    | (go_at_call 19; refine (awake_any _).mono ?_; rintro e w2 ⟨rfl, hb2⟩))
  go_ret
  exact ⟨rfl, btr hb1 hb2 hb1.size⟩

/-- what holds behind k windows -/
def TopK (w wr : World) (ra re : Nat → Int) (k : Nat) (v : Value) : Prop :=
  ∃ gf, wr.ownsRow w.heap.size 40 2 v k (winsV re gf k) ∧ (∀ i, i < k → Blk wr (gf i) 3 #[.int .i64 (ra i)]) ∧ (∀ i, i < k → re i ≤ 60) ∧ Below w.heap.size w wr
theorem topK_zero {w wr : World} {ra re : Nat → Int} (K : Below w.heap.size w wr) : TopK w wr ra re 0 (.slice none 0 0) := ⟨fun _ => 0, World.ownsRow_nil _ _ _ _, by omega, by omega, K⟩
theorem topK_step {w wr w' : World} {k : Nat} {ra re : Nat → Int} {v v' : Value} {o36 o40 : Obj} {gf : Nat → Nat} (h60 : re k ≤ 60)
    (own : wr.ownsRow w.heap.size 40 2 v k (winsV re gf k)) (hb : ∀ i, i < k → Blk wr (gf i) 3 #[.int .i64 (ra i)]) (h3 : ∀ i, i < k → re i ≤ 60) (K : Below w.heap.size w wr)
    (hown : w'.ownsRow w.heap.size 40 2 v' (k + 1) (winsV re gf k ++ [.int .i64 (re k), .slice (some ⟨wr.heap.size + 1, 0, none⟩) 1 1]))
    (hg : (((wr.alloc o36).alloc (.cells #[.int .i64 (ra k)] 3)).alloc o40).grownBy w' v.ownBlock) : TopK w w' ra re (k + 1) v' := by
  have own3 : (((wr.alloc o36).alloc (.cells #[.int .i64 (ra k)] 3)).alloc o40).ownsRow w.heap.size 40 2 v k (winsV re gf k) := ((own.alloc _).alloc _).alloc _
  refine ⟨fun i => if i = k then wr.heap.size + 1 else gf i, by rw [winsV_snoc]; exact hown, fun i hi => ?_, fun i hi => ?_, ?_⟩
  · by_cases e : i = k
    · subst e
      simp only [if_true]
      have := (Blk.new (wr.alloc o36) 3 #[.int .i64 (ra i)]).alloc o40
      rw [World.size_alloc] at this
      exact own_type own3 hg this (by decide)
    · simp only [if_neg e]
      exact own_type own3 hg ((((hb i (by omega)).alloc _).alloc _).alloc _) (by decide)
  · by_cases e : i = k
    · subst e; exact h60
    · exact h3 i (by omega)
  · have s := K.size
    have K3 : Below w.heap.size w (((wr.alloc o36).alloc (.cells #[.int .i64 (ra k)] 3)).alloc o40) := ((K.alloc s _).alloc (by simp; omega) _).alloc (by simp; omega) _
    exact own_below own3 hg K3 (Nat.le_refl _) K3.size

/-! ### they never meet -/
set_option maxRecDepth 100000 in
set_option maxHeartbeats 4000000 in
theorem top_pair (A : Option Addr) (n c : Nat) (ra re : Nat → Int) (x : Nat) (w : World) (hr : RoundsAt w A n ra re) (hx : (x : Int) ≤ 4294967295) (hl : ¬ (40 : Int) < n) (hok : okB ra re n = true)
    (i k : Nat) (hp : pairOf (nev ra re) n = ((i : Int), (k : Int), true)) (hik : i < k) (hk : k < n) (hn : nev ra re i k = true) :
    Calls Try.prog 10 #[.slice A n c, .int .u32 (x : Int)] w fun e w' => e = .returned (.bool true) ∧ Below w.heap.size w w' := by
  have K : KeepR w w A n ra re := ⟨Below.refl _ _, hr⟩
  have hE : (x : Int) % 900000000 = ((x % 900000000 : Nat) : Int) := rfl
  have hlt := Nat.mod_lt x (show 0 < 900000000 by omega)
  generalize x % 900000000 = y at *
  have HM := hid (show meetOf ra re n = (0, 0, 5) by simp [meetOf, hok, hp])
  have HV := hid (show neverOf ra re n = ((i : Int), (k : Int), 0) by simp [neverOf, hok, hp])
  have HI := hid (show isNeverOf ra re n i k = (true, 0) by unfold isNeverOf; rw [if_pos hok, if_pos (by omega)]; simp [hn])
  have HO := hid hok
  have hv := (okB_true.1 hok).2
  have hn6 := (okB_true.1 hok).1
  have HVa := hid hv
  have HZ := hid (fun L => top_cnt0 (L := L) hv (by omega : i < n) hk hn)
  have HRo := hid hr
  obtain ⟨i0, hi, hz0, hz1, hz2⟩ := info_parts info40
  clear hr hp hn hok hv
  go_enter Try.func10, Try.ntmps10
  go_wp2_with (first
    | (go_at_call 18; refine (long_any _ _ _ _).mono ?_; rintro e w' ⟨rfl, rfl⟩)
    | (go_at_call 28; refine (areRounds_any _ _ _ _ _ _ K.r).mono ?_; rintro e w1 ⟨rfl, hb⟩; rw [HO.out]; replace K := K.next hb; clear hb)
    | (go_at_call 20; refine (meet_any _ _ _ _ _ _ K.r).mono ?_; rintro e w2 ⟨rfl, hb⟩; rw [HM.out]; replace K := K.next hb; clear hb)
    | (go_at_call 22; refine (wNever_any _ _ _ _ _ _ K.r).mono ?_; rintro e w3 ⟨rfl, hb⟩; rw [HV.out]; replace K := K.next hb; clear hb)
    | (go_at_call 25; refine (rIsNever_any _ _ _ _ _ _ _ _ K.r).mono ?_; rintro e w4 ⟨rfl, hb⟩; rw [HI.out]; replace K := K.next hb; clear hb))
  have HT := hid (topK_zero (ra := ra) (re := re) K.bel)
  clear K
  go_loopw [15, 108] (fun s z wr => ∃ (j : Nat) (v : Value), j ≤ n ∧ z = .int .i64 (j : Int) ∧ s = v ∧ Hid (TopK w wr ra re j v)) (fun _ z _ => n - (intOf z).toNat)
  case atStart => exact ⟨0, _, by omega, rfl, rfl, HT⟩
  case round =>
    obtain ⟨j, v, hj, rfl, rfl, HTr⟩ := hrel
    clear HT
    obtain ⟨gf, own, hbk, h3, hB⟩ := HTr.out
    obtain ⟨A', c', rfl⟩ := own_shape own
    by_cases hlt : j < n
    · obtain ⟨_, b, off, hbl, hA, hc⟩ := HRo.out.below hB
      obtain rfl := hA (by omega)
      obtain ⟨hc0, hc1⟩ := hc j hlt
      have HX := hid (And.intro own (And.intro hbk (And.intro h3 hB)))
      have szr := hB.size
      clear hc hA own hbk h3 hB
      by_cases h60 : re j ≤ 60
      · have h60' : ¬ (60 : Int) < re j := by omega
        go_wp2_with (at_builtin; refine wpList_append_own _ rfl _ _ 58 rfl w.heap.size 40 i0 (.agg #[.int .i64 0, .slice none 0 0]) 2 32 Try.underlying58 hi hz0 hz1 hz2 rfl (by decide) _ _ _ rfl (((HX.out.1.alloc _).alloc _).alloc _) ⟨wr.heap.size + 2, 0, none⟩ 1 1 [.int .i64 (re j), .slice (some ⟨wr.heap.size + 1, 0, none⟩) 1 1] rfl rfl ?c1 ?c2 ?c3 ?c4 ?c5 ?_)
        case c2 => exact ⟨rfl, rfl⟩
        case c3 => unfold maxLen; omega
        case c4 => omega
        case c5 => omega
        · intro v' w5 hown' hgrow _
          obtain ⟨A5, c5, rfl⟩ := own_shape hown'
          have HT5 := hid (topK_step h60 HX.out.1 HX.out.2.1 HX.out.2.2.1 HX.out.2.2.2 hown' hgrow)
          clear hown' hgrow hc0 hc1
          go_wp2
          go_roundw
          case rel => exact ⟨j + 1, _, by omega, by go_num, rfl, HT5⟩
          case measure => simp [intOf]; omega
      · have h60' : (60 : Int) < re j := by omega
        go_wp2_with (go_at_call 19; refine (awake_any _).mono ?_; rintro e w6 ⟨rfl, hb⟩)
        go_ret
        exact ⟨rfl, btr (HX.out.2.2.2.alloc szr _) hb (by simp; omega)⟩
    · obtain rfl : j = n := by omega
      have HW := hid (own_wins own (by omega) hbk)
      have HB := hid hB
      have H60 := hid h3
      clear own hbk h3 hB HTr
      by_cases h4 : 4 < j
      · have h4' : (4 : Int) < (j : Int) := by omega
        clear h4
        go_wp2_with (go_at_call 19; refine (awake_any _).mono ?_; rintro e w6 ⟨rfl, hb⟩)
        go_ret
        exact ⟨rfl, btr HB.out hb HB.out.size⟩
      · have h4' : ¬ (4 : Int) < (j : Int) := by omega
        have hcode := top_code HVa.out H60.out ⟨hn6.1, by omega⟩
        have KW : KWs w wr A' j re (fun i => some ⟨gf i, 0, none⟩) oneN oneN (oneH ra) := ⟨HB.out, HW.out⟩
        have hbt := btw_true (a := 0) (n := (y : Int)) (b := 1000000000) (by omega) (by omega)
        clear h4
        by_cases hbig : 100000 < lcmN (perW re) j
        · rw [if_pos hbig] at hcode
          have HN := hid (show numOf re j oneN (oneH ra) = (0, 0, 4) by unfold numOf; rw [if_neg (by rw [hcode]; decide), hcode])
          have HF := hid (show firstOf re j oneN (oneH ra) y = (0, 4) by have := @firstOf_err re j oneN (oneH ra) (y : Int) (by rw [hbt, hcode]; decide); rw [hbt, hcode] at this; exact this)
          clear hbig hcode hbt
          go_wp2_with (first
            | (go_at_call 50; refine (wFirst_any _ _ _ _ _ _ _ _ _ _ KW.wins).mono ?_; rintro e w6 ⟨rfl, hb⟩; rw [HF.out]; replace KW := KW.next hb; clear hb)
            | (go_at_call 51; refine (wNumber_any _ _ _ _ _ _ _ _ _ KW.wins).mono ?_; rintro e w7 ⟨rfl, hb⟩; rw [HN.out]; replace KW := KW.next hb; clear hb)
            | (go_at_call 19; refine (awake_any _).mono ?_; rintro e w8 ⟨rfl, hb⟩; replace KW := KW.next hb; clear hb))
          go_ret
          exact ⟨rfl, KW.bel⟩
        · rw [if_neg hbig] at hcode
          have hLp := lcmN_pos (p := perW re) j fun i hi => (codeW_per hcode i hi).1
          have hc0 := HZ.out (lcmN (perW re) j)
          have HN := hid (show numOf re j oneN (oneH ra) = (0, ((lcmN (perW re) j : Nat) : Int), 0) by unfold numOf; rw [if_pos hcode, show cnt (lcmN (perW re) j) (allB j (perW re) (opW oneN (oneH ra))) = 0 from hc0]; rfl)
          have HF := hid (first_none hcode hc0 y (by omega))
          have hLp' : (0 : Int) < (lcmN (perW re) j : Nat) := by omega
          clear hbig hcode hbt hc0
          generalize lcmN (perW re) j = L at *
          go_wp2_with (first
            | (go_at_call 50; refine (wFirst_any _ _ _ _ _ _ _ _ _ _ KW.wins).mono ?_; rintro e w6 ⟨rfl, hb⟩; rw [HF.out]; replace KW := KW.next hb; clear hb)
            | (go_at_call 51; refine (wNumber_any _ _ _ _ _ _ _ _ _ KW.wins).mono ?_; rintro e w7 ⟨rfl, hb⟩; rw [HN.out]; replace KW := KW.next hb; clear hb)
            | (go_at_call 19; refine (awake_any _).mono ?_; rintro e w8 ⟨rfl, hb⟩; replace KW := KW.next hb; clear hb))
          go_ret
          exact ⟨rfl, KW.bel⟩

set_option maxRecDepth 100000 in
set_option maxHeartbeats 4000000 in
theorem top_met (A : Option Addr) (n c : Nat) (ra re : Nat → Int) (x : Nat) (w : World) (hr : RoundsAt w A n ra re) (hx : (x : Int) ≤ 4294967295) (hl : ¬ (40 : Int) < n) (hok : okB ra re n = true)
    (hp : (pairOf (nev ra re) n).2.2 = false) :
    Calls Try.prog 10 #[.slice A n c, .int .u32 (x : Int)] w fun e w' => e = .returned (.bool true) ∧ Below w.heap.size w w' := by
  have K : KeepR w w A n ra re := ⟨Below.refl _ _, hr⟩
  have hE : (x : Int) % 900000000 = ((x % 900000000 : Nat) : Int) := rfl
  have hlt := Nat.mod_lt x (show 0 < 900000000 by omega)
  generalize x % 900000000 = y at *
  obtain ⟨hm, hmet, hl1⟩ := meetOf_ok hok hp
  have HM := hid hm
  have HV := hid (show neverOf ra re n = (0, 0, 5) by unfold neverOf; rw [if_pos hok, if_neg (by rw [hp]; simp)])
  have HO := hid hok
  have hv := (okB_true.1 hok).2
  have hn6 := (okB_true.1 hok).1
  have HVa := hid hv
  have hm1 := hmet.2.1
  have hm2 := hmet.2.2
  have hl2 := lcmUp_le18 n hn6.2 fun i hi => ⟨(hv i hi).1, (hv i hi).2.1⟩
  have HH := hid (show hitsOf ra re n (meetUp ra re n) = (true, 0) by unfold hitsOf; rw [if_pos hok, if_neg (by omega), inAllB_true.2 hmet.1])
  have HC := hid (top_cnt1 hv hmet)
  have HFi := hid (fun hz => top_first hv hmet hz y (by omega))
  have HLc := hid (top_lcm (re := re) n fun i hi => (hv i hi).1)
  have HRo := hid hr
  obtain ⟨i0, hi, hz0, hz1, hz2⟩ := info_parts info40
  clear hr hp hm hmet hok hv
  generalize meetUp ra re n = M at *
  generalize lcmUp re n = E at *
  go_enter Try.func10, Try.ntmps10
  go_wp2_with (first
    | (go_at_call 18; refine (long_any _ _ _ _).mono ?_; rintro e w' ⟨rfl, rfl⟩)
    | (go_at_call 28; refine (areRounds_any _ _ _ _ _ _ K.r).mono ?_; rintro e w1 ⟨rfl, hb⟩; rw [HO.out]; replace K := K.next hb; clear hb)
    | (go_at_call 20; refine (meet_any _ _ _ _ _ _ K.r).mono ?_; rintro e w2 ⟨rfl, hb⟩; rw [HM.out]; replace K := K.next hb; clear hb)
    | (go_at_call 22; refine (wNever_any _ _ _ _ _ _ K.r).mono ?_; rintro e w3 ⟨rfl, hb⟩; rw [HV.out]; replace K := K.next hb; clear hb)
    | (go_at_call 26; refine (wHits_any _ _ _ _ _ _ _ K.r).mono ?_; rintro e w4 ⟨rfl, hb⟩; rw [HH.out]; replace K := K.next hb; clear hb))
  have HT := hid (topK_zero (ra := ra) (re := re) K.bel)
  clear K
  go_loopw [15, 108] (fun s z wr => ∃ (j : Nat) (v : Value), j ≤ n ∧ z = .int .i64 (j : Int) ∧ s = v ∧ Hid (TopK w wr ra re j v)) (fun _ z _ => n - (intOf z).toNat)
  case atStart => exact ⟨0, _, by omega, rfl, rfl, HT⟩
  case round =>
    obtain ⟨j, v, hj, rfl, rfl, HTr⟩ := hrel
    clear HT
    obtain ⟨gf, own, hbk, h3, hB⟩ := HTr.out
    obtain ⟨A', c', rfl⟩ := own_shape own
    by_cases hlt : j < n
    · obtain ⟨_, b, off, hbl, hA, hc⟩ := HRo.out.below hB
      obtain rfl := hA (by omega)
      obtain ⟨hc0, hc1⟩ := hc j hlt
      have HX := hid (And.intro own (And.intro hbk (And.intro h3 hB)))
      have szr := hB.size
      clear hc hA own hbk h3 hB
      by_cases h60 : re j ≤ 60
      · have h60' : ¬ (60 : Int) < re j := by omega
        go_wp2_with (at_builtin; refine wpList_append_own _ rfl _ _ 58 rfl w.heap.size 40 i0 (.agg #[.int .i64 0, .slice none 0 0]) 2 32 Try.underlying58 hi hz0 hz1 hz2 rfl (by decide) _ _ _ rfl (((HX.out.1.alloc _).alloc _).alloc _) ⟨wr.heap.size + 2, 0, none⟩ 1 1 [.int .i64 (re j), .slice (some ⟨wr.heap.size + 1, 0, none⟩) 1 1] rfl rfl ?c1 ?c2 ?c3 ?c4 ?c5 ?_)
        case c2 => exact ⟨rfl, rfl⟩
        case c3 => unfold maxLen; omega
        case c4 => omega
        case c5 => omega
        · intro v' w5 hown' hgrow _
          obtain ⟨A5, c5, rfl⟩ := own_shape hown'
          have HT5 := hid (topK_step h60 HX.out.1 HX.out.2.1 HX.out.2.2.1 HX.out.2.2.2 hown' hgrow)
          clear hown' hgrow hc0 hc1
          go_wp2
          go_roundw
          case rel => exact ⟨j + 1, _, by omega, by go_num, rfl, HT5⟩
          case measure => simp [intOf]; omega
      · have h60' : (60 : Int) < re j := by omega
        go_wp2_with (go_at_call 19; refine (awake_any _).mono ?_; rintro e w6 ⟨rfl, hb⟩)
        go_ret
        exact ⟨rfl, btr (HX.out.2.2.2.alloc szr _) hb (by simp; omega)⟩
    · obtain rfl : j = n := by omega
      have HW := hid (own_wins own (by omega) hbk)
      have HB := hid hB
      have H60 := hid h3
      clear own hbk h3 hB HTr
      by_cases h4 : 4 < j
      · have h4' : (4 : Int) < (j : Int) := by omega
        clear h4
        go_wp2_with (go_at_call 19; refine (awake_any _).mono ?_; rintro e w6 ⟨rfl, hb⟩)
        go_ret
        exact ⟨rfl, btr HB.out hb HB.out.size⟩
      · have h4' : ¬ (4 : Int) < (j : Int) := by omega
        have hcode := top_code HVa.out H60.out ⟨hn6.1, by omega⟩
        have KW : KWs w wr A' j re (fun i => some ⟨gf i, 0, none⟩) oneN oneN (oneH ra) := ⟨HB.out, HW.out⟩
        have hbt := btw_true (a := 0) (n := (y : Int)) (b := 1000000000) (by omega) (by omega)
        clear h4
        by_cases hbig : 100000 < lcmN (perW re) j
        · rw [if_pos hbig] at hcode
          have HN := hid (show numOf re j oneN (oneH ra) = (0, 0, 4) by unfold numOf; rw [if_neg (by rw [hcode]; decide), hcode])
          have HF := hid (show firstOf re j oneN (oneH ra) y = (0, 4) by have := @firstOf_err re j oneN (oneH ra) (y : Int) (by rw [hbt, hcode]; decide); rw [hbt, hcode] at this; exact this)
          clear hbig hcode hbt
          go_wp2_with (first
            | (go_at_call 50; refine (wFirst_any _ _ _ _ _ _ _ _ _ _ KW.wins).mono ?_; rintro e w6 ⟨rfl, hb⟩; rw [HF.out]; replace KW := KW.next hb; clear hb)
            | (go_at_call 51; refine (wNumber_any _ _ _ _ _ _ _ _ _ KW.wins).mono ?_; rintro e w7 ⟨rfl, hb⟩; rw [HN.out]; replace KW := KW.next hb; clear hb)
            | (go_at_call 19; refine (awake_any _).mono ?_; rintro e w8 ⟨rfl, hb⟩; replace KW := KW.next hb; clear hb))
          go_ret
          exact ⟨rfl, KW.bel⟩
        · rw [if_neg hbig] at hcode
          have hLp := lcmN_pos (p := perW re) j fun i hi => (codeW_per hcode i hi).1
          have hLE := HLc.out
          have HN := hid (show numOf re j oneN (oneH ra) = (1, E, 0) by unfold numOf; rw [if_pos hcode, show cnt (lcmN (perW re) j) (allB j (perW re) (opW oneN (oneH ra))) = 1 from HC.out, hLE]; rfl)
          have HF := hid (HFi.out hcode)
          clear hbig hcode hbt hLE
          have hE0 : (E == 0) = false := by simp; omega
          have tb1 := Int.lt_tmod_of_pos (M - (y : Int)) (show 0 < E by omega)
          have tb2 := Int.tmod_lt_of_pos (M - (y : Int)) (show 0 < E by omega)
          have tb3 := Int.tmod_lt_of_pos ((M - (y : Int)).tmod E + E) (show 0 < E by omega)
          have tb4 := Int.tmod_nonneg E (show 0 ≤ (M - (y : Int)).tmod E + E by omega)
          have tw1 : wrap64 ((M - (y : Int)).tmod E + E) = (M - (y : Int)).tmod E + E := IntWalk.wrap64_in _ (by omega)
          have tw2 : wrap64 ((y : Int) + ((M - (y : Int)).tmod E + E).tmod E) = (y : Int) + ((M - (y : Int)).tmod E + E).tmod E := IntWalk.wrap64_in _ (by omega)
          clear tb1 tb2 tb3 tb4
          go_wp2_with (first
            | (go_at_call 50; refine (wFirst_any _ _ _ _ _ _ _ _ _ _ KW.wins).mono ?_; rintro e w6 ⟨rfl, hb⟩; rw [HF.out]; replace KW := KW.next hb; clear hb)
            | (go_at_call 51; refine (wNumber_any _ _ _ _ _ _ _ _ _ KW.wins).mono ?_; rintro e w7 ⟨rfl, hb⟩; rw [HN.out]; replace KW := KW.next hb; clear hb)
            | (go_at_call 19; refine (awake_any _).mono ?_; rintro e w8 ⟨rfl, hb⟩; replace KW := KW.next hb; clear hb))
          go_ret
          exact ⟨rfl, KW.bel⟩

theorem topWindow_walk (A : Option Addr) (n c : Nat) (ra re : Nat → Int) (x : Int) (w : World) (hr : RoundsAt w A n ra re) (hx : (Lit.int .u32 x).wf = true) :
    Calls Try.prog 10 #[.slice A n c, .int .u32 x] w fun e w' => e = .returned (.bool true) ∧ Below w.heap.size w w' := by
  have hx' : 0 ≤ x ∧ x ≤ 4294967295 := by simp [Lit.wf, IntKind.min, IntKind.max, IntKind.bits, IntKind.signed] at hx; omega
  by_cases hl : (40 : Int) < n
  · exact top_long A n c ra re x w hr hl
  · cases hok : okB ra re n
    · exact top_badr A n c ra re x w hr hl hok
    · obtain ⟨x, rfl⟩ := Int.eq_ofNat_of_zero_le hx'.1
      rcases pairOf_spec (nev ra re) n with ⟨i, k, hp, hik, hk, hn⟩ | ⟨hp, _⟩
      · exact top_pair A n c ra re x w hr hx'.2 hl hok i k hp hik hk hn
      · exact top_met A n c ra re x w hr hx'.2 hl hok (by rw [hp])
end Go.Proofs.Ytfabpkcgdblnbaa
