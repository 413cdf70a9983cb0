/-
  newSeveral: the windows that are taken together, and their period. Conditions: the windows lie in memory.
-/
import Derived.Test.YtfabpkcgdblnbaaV17
namespace Go.Proofs.Ytfabpkcgdblnbaa
set_option linter.unusedVariables false
set_option linter.unusedSimpArgs false
open Go.RowKit

def lcmN (p : Nat → Nat) : Nat → Nat
  | 0 => 1
  | n + 1 => Nat.lcm (lcmN p n) (p n)
theorem lcmN_pos {p : Nat → Nat} (n : Nat) (h : ∀ i, i < n → 1 ≤ p i) : 1 ≤ lcmN p n := by
  induction n with
  | zero => exact Nat.le_refl _
  | succ n ih => exact Nat.lcm_pos (ih fun i hi => h i (by omega)) (h n (by omega))
theorem lcmN_le {p : Nat → Nat} (n : Nat) (h : ∀ i, i < n → 1 ≤ p i ∧ p i ≤ 60) : lcmN p n ≤ 60 ^ n := by
  induction n with
  | zero => exact Nat.le_refl _
  | succ n ih =>
    have h1 := ih fun i hi => h i (by omega)
    have h2 := h n (by omega)
    have h0 := lcmN_pos (p := p) n fun i hi => (h i (by omega)).1
    refine Nat.le_trans (Nat.le_of_dvd (Nat.mul_pos (by omega) (by omega)) (Nat.lcm_dvd_mul _ _)) ?_
    rw [Nat.pow_succ]
    exact Nat.mul_le_mul h1 h2.2
theorem lcmN_dvd {p : Nat → Nat} {n i : Nat} (h : i < n) : p i ∣ lcmN p n := by
  induction n with
  | zero => omega
  | succ n ih =>
    by_cases e : i = n
    · subst e; exact Nat.dvd_lcm_right _ _
    · exact Nat.dvd_trans (ih (by omega)) (Nat.dvd_lcm_left _ _)

theorem grown_of {w w' : World} (hb : Below w.heap.size w w') : w.grownBy w' none := ⟨hb.os, hb.tape, hb.output, hb.size, fun k hk _ => hb.block k hk⟩
theorem own_bel {w w' : World} {base e size n : Nat} {v : Value} {xs : List Value} (h : w.ownsRow base e size v n xs) (hb : Below w.heap.size w w') : w'.ownsRow base e size v n xs :=
  h.kept (grown_of hb) (by cases v.ownBlock <;> simp)
theorem own_type {w w' : World} {base e size n : Nat} {v : Value} {xs : List Value} {g t : Nat} {cs : Array Value} (h : w.ownsRow base e size v n xs) (hg : w.grownBy w' v.ownBlock) (hb : Blk w g t cs) (hne : t ≠ e) : Blk w' g t cs := by
  refine (hg.block g hb.lt ?_).trans hb
  rcases h.2 with ⟨rfl, _⟩ | ⟨g', cap, cur, rfl, _, hh, _⟩
  · simp [Value.ownBlock]
  · simp [Value.ownBlock]
    rintro rfl
    unfold Blk at hb
    rw [hb] at hh
    injection hh with hh
    injection hh with _ ht
    exact hne ht

/-- the rows of a several, as values -/
def rowsV (p g : Nat → Nat) (k : Nat) : List Value := (List.range k).map fun i => Value.slice (some ⟨g i, 0, none⟩) (p i) (p i)
theorem rowsV_len (p g : Nat → Nat) (k : Nat) : (rowsV p g k).length = k := by simp [rowsV]
theorem rowsV_snoc (p g : Nat → Nat) (k x : Nat) : rowsV p (fun i => if i = k then x else g i) (k + 1) = rowsV p g k ++ [.slice (some ⟨x, 0, none⟩) (p k) (p k)] := by
  unfold rowsV
  rw [List.range_succ, List.map_append]
  congr 1
  · exact List.map_congr_left fun j hj => by
      have hne : ¬ j = k := by have := List.mem_range.1 hj; omega
      simp [hne]
  · simp
theorem rowsV_get {p g : Nat → Nat} {k i : Nat} (h : i < k) : (rowsV p g k)[i]? = some (.slice (some ⟨g i, 0, none⟩) (p i) (p i)) := by simp [rowsV, h]
/-- what holds behind k windows -/
def SevK (w wr : World) (k : Nat) (p : Nat → Nat) (f : Nat → Nat → Bool) : Prop :=
  ∃ v g, Blk wr (w.heap.size + 1) 95 #[v, .int .i64 (lcmN p k : Nat)] ∧ wr.ownsRow (w.heap.size + 2) 82 1 v k (rowsV p g k) ∧ (∀ i, i < k → Blk wr (g i) 4 (tabA (p i) (f i))) ∧ Blk wr w.heap.size 95 #[.slice none 0 0, .int .i64 0] ∧ Below w.heap.size w wr
def SevR (w : World) (n : Nat) (p : Nat → Nat) (f : Nat → Nat → Bool) (e : Ending) (w' : World) : Prop :=
  ∃ A c, e = .returned (.tuple #[.agg #[.slice A n c, .int .i64 (lcmN p n : Nat)], .int .i64 (if 100000 < lcmN p n then 4 else 0)]) ∧ SevAt w' A n p f ∧ Below w.heap.size w w'
theorem own_sev {w : World} {base n c : Nat} {A : Option Addr} {p g : Nat → Nat} {f : Nat → Nat → Bool} (h : w.ownsRow base 82 1 (.slice A n c) n (rowsV p g n)) (hn : n ≤ 4) (hp : ∀ i, i < n → 1 ≤ p i ∧ p i ≤ 60)
    (hr : ∀ i, i < n → Blk w (g i) 4 (tabA (p i) (f i))) : SevAt w A n p f := by
  rcases h.2 with ⟨_, h0⟩ | ⟨g', cap, cur, hv, hgb, hh, _⟩
  · subst h0
    exact ⟨hn, 0, 0, by omega, by omega, fun _ => 0, by omega⟩
  · injection hv with hA
    subst hA
    refine ⟨hn, g', 0, fun _ => ?_, fun _ => rfl, g, fun i hi => ⟨?_, BoolsAt.of_blk (hr i hi), hp i hi⟩⟩
    · rcases Nat.lt_or_ge g' w.heap.size with hlt | hge
      · exact hlt
      · rw [Array.getElem?_eq_none hge] at hh; cases hh
    · have := h.cells (g := g') rfl i _ (rowsV_get hi)
      by_cases h0 : i = 0
      · subst h0; simpa [Addr.add] using this
      · simpa [Addr.add, h0] using this

theorem info82 : (Try.prog.info? 82).map (fun i => (i.zero, i.size, i.bytes)) = some (some (.slice none 0 0), 1, 24) := by kernel_rfl

set_option maxHeartbeats 1000000 in
theorem newSev_bad (A : Option Addr) (n c : Nat) (P : Nat → Int) (G : Nat → Option Addr) (N C : Nat → Nat) (h : Nat → Nat → Int) (r : Bool) (w : World) (H : WinsAt w A n P G N C h) (hbad : anyB n (badW P N h) = true) :
    Calls Try.prog 88 #[.slice A n c, .bool r] w fun e w' => e = .returned (.tuple #[.agg #[.slice none 0 0, .int .i64 1], .int .i64 50]) ∧ Below w.heap.size w w' := by
  have HH := hid H
  have HB := hid hbad
  clear H hbad
  go_enter Try.func88, Try.ntmps88
  go_wp2_with fail
  refine (containsW_any _ _ _ _ _ _ _ _ _ ((HH.out.alloc _).alloc _)).mono ?_
  rintro e w1 ⟨rfl, hb1⟩
  rw [HB.out]
  have h0 := ((Blk.new w 95 #[.slice none 0 0, .int .i64 0]).alloc (.cells #[.slice none 0 0, .int .i64 1] 95)).below' hb1
  have h1 := (Blk.new (w.alloc (.cells #[.slice none 0 0, .int .i64 0] 95)) 95 #[.slice none 0 0, .int .i64 1]).below' hb1
  have hs : (w.alloc (.cells #[.slice none 0 0, .int .i64 0] 95)).heap.size = w.heap.size + 1 := by simp
  rw [hs] at h1
  have hbw := box_trans _ (box_trans _ hb1)
  have a0 := h0.cell 0
  have a1 := h0.cell 1
  have b0 := h1.cell 0
  have b1 := h1.cell 1
  have f0 := h0.frozen 0
  have f1 := h0.frozen 1
  simp only [List.getElem?_toArray, List.getElem?_cons_succ, List.getElem?_cons_zero] at a0 a1 b0 b1
  have l0 := h0.lt
  have l1 := h1.lt
  clear h0 h1 hs hb1
  have HW := hid hbw
  clear hbw
  go_wp2
  exact bodyPost_ret (v := .tuple #[.agg #[.slice none 0 0, .int .i64 1], .int .i64 50]) (by simp [results, Try.results88, go_sem, a0, a1, b0, b1]) rfl ⟨rfl, (HW.out.setCell (p := ⟨w.heap.size, 0, none⟩) (Nat.le_refl _) _).setCell (p := ⟨w.heap.size, 1, none⟩) (Nat.le_refl _) _⟩

set_option maxHeartbeats 1000000 in
theorem newSev_arg (A : Option Addr) (n c : Nat) (P : Nat → Int) (G : Nat → Option Addr) (N C : Nat → Nat) (h : Nat → Nat → Int) (r : Bool) (w : World) (H : WinsAt w A n P G N C h) (hbad : anyB n (badW P N h) = false)
    (ha : (btw 1 n 4 && r) = false) :
    Calls Try.prog 88 #[.slice A n c, .bool r] w fun e w' => e = .returned (.tuple #[.agg #[.slice none 0 0, .int .i64 1], .int .i64 2]) ∧ Below w.heap.size w w' := by
  have HH := hid H
  have HB := hid hbad
  have key : (btw 1 n 4 = false) ∨ (btw 1 n 4 = true ∧ r = false) := by
    cases h1 : btw 1 n 4
    · exact .inl rfl
    · rw [h1] at ha; exact .inr ⟨rfl, by simpa using ha⟩
  clear H hbad ha
  rcases key with h1 | ⟨h1, rfl⟩
  all_goals
    have HT := hid h1
    clear h1
    go_enter Try.func88, Try.ntmps88
    go_wp2_with fail
    refine (containsW_any _ _ _ _ _ _ _ _ _ ((HH.out.alloc _).alloc _)).mono ?_
    rintro e w1 ⟨rfl, hb1⟩
    rw [HB.out]
    have h0 := ((Blk.new w 95 #[.slice none 0 0, .int .i64 0]).alloc (.cells #[.slice none 0 0, .int .i64 1] 95)).below' hb1
    have h1 := (Blk.new (w.alloc (.cells #[.slice none 0 0, .int .i64 0] 95)) 95 #[.slice none 0 0, .int .i64 1]).below' hb1
    have hs : (w.alloc (.cells #[.slice none 0 0, .int .i64 0] 95)).heap.size = w.heap.size + 1 := by simp
    rw [hs] at h1
    have hbw := box_trans _ (box_trans _ hb1)
    have a0 := h0.cell 0
    have a1 := h0.cell 1
    have b0 := h1.cell 0
    have b1 := h1.cell 1
    have f0 := h0.frozen 0
    have f1 := h0.frozen 1
    simp only [List.getElem?_toArray, List.getElem?_cons_succ, List.getElem?_cons_zero] at a0 a1 b0 b1
    have l0 := h0.lt
    have l1 := h1.lt
    clear h0 h1 hs hb1
    have HW := hid hbw
    clear hbw
    go_wp2_with (go_at_call 68; refine (between_any _ _ _ _).mono ?_; rintro e w' ⟨rfl, rfl⟩; rw [HT.out])
    exact bodyPost_ret (v := .tuple #[.agg #[.slice none 0 0, .int .i64 1], .int .i64 2]) (by simp [results, Try.results88, go_sem, a0, a1, b0, b1]) rfl ⟨rfl, (HW.out.setCell (p := ⟨w.heap.size, 0, none⟩) (Nat.le_refl _) _).setCell (p := ⟨w.heap.size, 1, none⟩) (Nat.le_refl _) _⟩

set_option maxHeartbeats 4000000 in
theorem newSev_good (A : Option Addr) (n c : Nat) (p : Nat → Nat) (G : Nat → Option Addr) (N C : Nat → Nat) (h : Nat → Nat → Int) (w : World) (H : WinsAt w A n (fun i => (p i : Int)) G N C h)
    (hbad : anyB n (badW (fun i => (p i : Int)) N h) = false) (hn : 1 ≤ n ∧ n ≤ 4) :
    Calls Try.prog 88 #[.slice A n c, .bool true] w (SevR w n p (fun i => opn (N i) (h i))) := by
  obtain ⟨hn1, hn2⟩ := hn
  have HV := hid (fun i (hi : i < n) => show winB (p i) (N i) (h i) 60 = true by have := anyB_false.1 hbad i hi; unfold badW at this; simpa using this)
  have HP := hid (fun i (hi : i < n) => show 1 ≤ p i ∧ p i ≤ 60 by have := (winB_true.1 (HV.out i hi)).1; omega)
  have HH := hid H
  have HB := hid hbad
  have HT := hid (btw_true (a := 1) (n := n) (b := 4) (by omega) (by omega))
  obtain ⟨i0, hi, hz0, hz1, hz2⟩ := info_parts info82
  have hL0 := fun k (hk : k ≤ n) => lcmN_pos (p := p) k fun i hi => (HP.out i (by omega)).1
  have hL1 := fun k (hk : k ≤ n) => lcmN_le (p := p) k fun i hi => HP.out i (by omega)
  have HL := hid (And.intro hL0 hL1)
  clear H hbad hL0 hL1
  go_enter Try.func88, Try.ntmps88
  go_wp2_with fail
  refine (containsW_any _ _ _ _ _ _ _ _ _ ((HH.out.alloc _).alloc _)).mono ?_
  rintro e w1 ⟨rfl, hb1⟩
  rw [HB.out]
  have h0 := ((Blk.new w 95 #[.slice none 0 0, .int .i64 0]).alloc (.cells #[.slice none 0 0, .int .i64 1] 95)).below' hb1
  have h1 := (Blk.new (w.alloc (.cells #[.slice none 0 0, .int .i64 0] 95)) 95 #[.slice none 0 0, .int .i64 1]).below' hb1
  have hs : (w.alloc (.cells #[.slice none 0 0, .int .i64 0] 95)).heap.size = w.heap.size + 1 := by simp
  rw [hs] at h1
  have hbw := box_trans _ (box_trans _ hb1)
  go_wp2_with (go_at_call 68; refine (between_any _ _ _ _).mono ?_; rintro e w' ⟨rfl, rfl⟩; rw [HT.out])
  have HS : Hid (SevK w w1 0 p (fun i => opn (N i) (h i))) := hid ⟨_, fun _ => 0, h1, World.ownsRow_nil _ _ _ _, by omega, h0, hbw⟩
  clear h0 h1 hs hb1 hbw
  go_loopw [26] (fun z wr => ∃ k : Nat, k ≤ n ∧ z = .int .i64 k ∧ Hid (SevK w wr k p (fun i => opn (N i) (h i)))) (fun z _ => n - (intOf z).toNat)
  case atStart => exact ⟨0, by omega, rfl, HS⟩
  case round =>
    obtain ⟨k, hk, rfl, HK⟩ := hrel
    clear HS
    obtain ⟨v, gf, hBs, hown, hrows, hB0, hbel⟩ := HK.out
    obtain ⟨A', c', rfl⟩ := own_shape hown
    by_cases hlt : k < n
    · obtain ⟨_, b, off, hb1', hA, hc⟩ := HH.out.below hbel
      obtain rfl := hA (by omega)
      obtain ⟨⟨hc0, hc1⟩, hhk⟩ := hc k hlt
      have HHK := hid hhk
      have HWK := hid (HV.out k hlt)
      have HO := hid hown
      have HR := hid hrows
      have HBel := hid hbel
      have pk1 := (HP.out k hlt).1
      have pk2 := (HP.out k hlt).2
      have lk1 := HL.out.1 k (by omega)
      have lk2 : lcmN p k ≤ 216000 := Nat.le_trans (HL.out.2 k (by omega)) (Nat.le_trans (Nat.pow_le_pow_right (by omega) (show k ≤ 3 by omega)) (by omega))
      clear hc hhk hA hown hrows hbel
      go_wp2_with fail
      refine (newOpen_yes (p k) _ _ _ _ _ _ (HHK.out.alloc _) (by omega) HWK.out).mono ?_
      rintro e w2 ⟨g, rfl, hg1, hg2, hg3⟩
      have sz := HBel.out.size
      have szr := hBs.lt
      have sz2 := hg3.size
      simp only [World.size_alloc] at sz2 hg1
      have tB := (Blk.new wr 40 #[.int .i64 (p k : Int), .slice (G k) (N k) (C k)]).below' hg3
      have sB := (hBs.alloc (.cells #[.int .i64 (p k : Int), .slice (G k) (N k) (C k)] 40)).below' hg3
      have zB := (hB0.alloc (.cells #[.int .i64 (p k : Int), .slice (G k) (N k) (C k)] 40)).below' hg3
      have own2 := own_bel (HO.out.alloc (.cells #[.int .i64 (p k : Int), .slice (G k) (N k) (C k)] 40)) hg3
      have HR2 := hid (fun i hi => ((HR.out i hi).alloc (.cells #[.int .i64 (p k : Int), .slice (G k) (N k) (C k)] 40)).below' hg3)
      have HB2 := hid (btr (HBel.out.alloc HBel.out.size (.cells #[.int .i64 (p k : Int), .slice (G k) (N k) (C k)] 40)) hg3 (by simp; omega))
      have s0 := sB.cell 0
      have s1 := sB.cell 1
      have t0 := tB.cell 0
      have sf0 := sB.frozen 0
      have sf1 := sB.frozen 1
      simp only [List.getElem?_toArray, List.getElem?_cons_succ, List.getElem?_cons_zero] at s0 s1 t0
      have s0' : ∀ o, (w2.alloc o).cell? ⟨w.heap.size + 1, 0, none⟩ = some (.slice A' k c') := fun o => (World.cell?_alloc_lt w2 o ⟨w.heap.size + 1, 0, none⟩ sB.lt).trans s0
      have HG2 := hid hg2
      clear hg2 hg3 hBs hB0 hc0 hc1
      go_wp2_with (at_builtin; refine wpList_append_own _ rfl _ _ 93 rfl (w.heap.size + 2) 82 i0 (.slice none 0 0) 1 24 Try.underlying93 hi hz0 hz1 hz2 rfl (by decide) _ _ _ rfl (own2.alloc _) ⟨w2.heap.size, 0, none⟩ 1 1 [.slice (some ⟨g, 0, none⟩) (p k) (p k)] rfl rfl ?c1 ?c2 ?c3 ?c4 ?c5 ?_)
      case c1 =>
        intro j u hj
        match j, hj with
        | 0, hj => simp at hj; subst hj; simp [Addr.add]
      case c2 => intro u hu; simp at hu; subst hu; rfl
      case c3 => unfold maxLen; omega
      case c4 => omega
      case c5 => simp; omega
      · intro v' w3 hown' hgrow _
        obtain ⟨A3, c3, rfl⟩ := own_shape hown'
        have own2' := own2.alloc (.cells #[.slice (some ⟨g, 0, none⟩) (p k) (p k)] 82)
        have sB3 := own_type own2' hgrow (sB.alloc _) (by decide)
        have zB3 := own_type own2' hgrow (zB.alloc _) (by decide)
        have tB3 := own_type own2' hgrow (tB.alloc _) (by decide)
        have gB3 := own_type own2' hgrow (HG2.out.alloc _) (by decide)
        have HR3 := hid (fun i hi => own_type own2' hgrow ((HR2.out i hi).alloc _) (by decide))
        have HB3 := hid (own_below own2' hgrow (HB2.out.alloc HB2.out.size _) (by omega) (by simp; omega))
        have q0 := sB3.cell 0
        have q1 := sB3.cell 1
        have q2 := tB3.cell 0
        have qf0 := sB3.frozen 0
        have qf1 := sB3.frozen 1
        simp only [List.getElem?_toArray, List.getElem?_cons_succ, List.getElem?_cons_zero] at q0 q1 q2
        have ql := sB3.lt
        have HO3 := hid hown'
        have HX := hid (And.intro sB3 (And.intro zB3 (And.intro tB3 gB3)))
        clear own2 own2' hown' hgrow sB3 zB3 tB3 gB3 sB zB tB s0 s1 t0 s0' sf0 sf1
        go_wp2_with fail
        have hmul : (lcmN p k : Int) * (p k : Int) ≤ 216000 * 60 := Int.mul_le_mul (by omega) (by omega) (by omega) (by omega)
        refine (common_any _ _ _ (by omega) (by omega) (by omega) (by omega) (by omega)).mono ?_
        rintro e w4 ⟨rfl, m, rfl⟩
        rw [lcmI_nat]
        clear hmul
        go_wp2
        go_roundw
        case rel =>
          have e1 : w.heap.size ≠ w.heap.size + 1 := by omega
          refine ⟨k + 1, by omega, by go_num, hid ⟨.slice A3 (k + 1) c3, fun i => if i = k then g else gf i, ?_, ?_, ?_, ?_, ?_⟩⟩
          · exact ((HX.out.1.set_ 0 (.slice A3 (k + 1) c3)).drewN m).set_ 1 (.int .i64 ((lcmN p k).lcm (p k) : Nat))
          · rw [rowsV_snoc]
            exact own_set (own_set HO3.out (a := ⟨w.heap.size + 1, 0, none⟩) (by show w.heap.size + 1 < w.heap.size + 2; omega) _) (a := ⟨w.heap.size + 1, 1, none⟩) (by show w.heap.size + 1 < w.heap.size + 2; omega) _
          · intro i hi
            by_cases e : i = k
            · subst e
              have e2 : g ≠ w.heap.size + 1 := by omega
              simp only [if_true]
              exact ((HX.out.2.2.2.far (p := ⟨w.heap.size + 1, 0, none⟩) e2 _).drewN m).far (p := ⟨w.heap.size + 1, 1, none⟩) e2 _
            · simp only [if_neg e]
              have hr := HR3.out i (by omega)
              have e2 : gf i ≠ w.heap.size + 1 := hr.ne_ HX.out.1 (by decide)
              exact ((hr.far (p := ⟨w.heap.size + 1, 0, none⟩) e2 _).drewN m).far (p := ⟨w.heap.size + 1, 1, none⟩) e2 _
          · exact ((HX.out.2.1.far (p := ⟨w.heap.size + 1, 0, none⟩) e1 _).drewN m).far (p := ⟨w.heap.size + 1, 1, none⟩) e1 _
          · exact (bdn (HB3.out.setCell (p := ⟨w.heap.size + 1, 0, none⟩) (by show w.heap.size ≤ w.heap.size + 1; omega) _) m).setCell (p := ⟨w.heap.size + 1, 1, none⟩) (by show w.heap.size ≤ w.heap.size + 1; omega) _
        case measure => simp [intOf]; omega
    · obtain rfl : k = n := by omega
      have HO := hid hown
      have HR := hid hrows
      have HBel := hid hbel
      have s0 := hBs.cell 0
      have s1 := hBs.cell 1
      have z0 := hB0.cell 0
      have z1 := hB0.cell 1
      have zf0 := hB0.frozen 0
      have zf1 := hB0.frozen 1
      simp only [List.getElem?_toArray, List.getElem?_cons_succ, List.getElem?_cons_zero] at s0 s1 z0 z1
      have ls := hBs.lt
      have HA := hid (And.intro hBs hB0)
      clear hBs hB0 hown hrows hbel
      by_cases hbig : 100000 < lcmN p k
      · have hb2 : (100000 : Int) < (lcmN p k : Nat) := by omega
        have HE : Hid ((if 100000 < lcmN p k then (4 : Int) else 0) = 4) := hid (if_pos hbig)
        clear hbig
        go_wp2
        refine bodyPost_ret (v := .tuple #[.agg #[.slice A' k c', .int .i64 (lcmN p k : Nat)], .int .i64 4]) (by simp [results, Try.results88, go_sem, s0, s1, z0, z1]) rfl ⟨A', c', ?_, ?_, ?_⟩
        · rw [HE.out]
        · exact own_sev (own_set (own_set HO.out (a := ⟨w.heap.size, 0, none⟩) (by show w.heap.size < w.heap.size + 2; omega) _) (a := ⟨w.heap.size, 1, none⟩) (by show w.heap.size < w.heap.size + 2; omega) _) hn2 HP.out
            fun i hi => ((HR.out i hi).far (p := ⟨w.heap.size, 0, none⟩) ((HR.out i hi).ne_ HA.out.2 (by decide)) _).far (p := ⟨w.heap.size, 1, none⟩) ((HR.out i hi).ne_ HA.out.2 (by decide)) _
        · exact (HBel.out.setCell (p := ⟨w.heap.size, 0, none⟩) (Nat.le_refl _) _).setCell (p := ⟨w.heap.size, 1, none⟩) (Nat.le_refl _) _
      · have hb2 : ¬ (100000 : Int) < (lcmN p k : Nat) := by omega
        have HE : Hid ((if 100000 < lcmN p k then (4 : Int) else 0) = 0) := hid (if_neg hbig)
        clear hbig
        go_wp2
        refine bodyPost_ret (v := .tuple #[.agg #[.slice A' k c', .int .i64 (lcmN p k : Nat)], .int .i64 0]) (by simp [results, Try.results88, go_sem, s0, s1, z0, z1]) rfl ⟨A', c', ?_, ?_, ?_⟩
        · rw [HE.out]
        · exact own_sev (own_set (own_set HO.out (a := ⟨w.heap.size, 0, none⟩) (by show w.heap.size < w.heap.size + 2; omega) _) (a := ⟨w.heap.size, 1, none⟩) (by show w.heap.size < w.heap.size + 2; omega) _) hn2 HP.out
            fun i hi => ((HR.out i hi).far (p := ⟨w.heap.size, 0, none⟩) ((HR.out i hi).ne_ HA.out.2 (by decide)) _).far (p := ⟨w.heap.size, 1, none⟩) ((HR.out i hi).ne_ HA.out.2 (by decide)) _
        · exact (HBel.out.setCell (p := ⟨w.heap.size, 0, none⟩) (Nat.le_refl _) _).setCell (p := ⟨w.heap.size, 1, none⟩) (Nat.le_refl _) _
end Go.Proofs.Ytfabpkcgdblnbaa
