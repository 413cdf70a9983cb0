/-
  Plain of the program and of the reference, and Equal: what each returns. Conditions: the hours lie in memory.
-/
import Derived.Test.YtfabpkcgdblnbaaV3
namespace Go.Proofs.Ytfabpkcgdblnbaa
set_option linter.unusedVariables false
set_option linter.unusedSimpArgs false
open Go.RowKit

theorem plainP_le (p : Nat) (f : Nat → Bool) : plainP p f ≤ p := by
  unfold plainP
  cases e : (List.range p).find? (isPer p f) with
  | none => simp
  | some q => have := List.mem_of_find?_eq_some e; simp at this ⊢; omega
theorem plainP_pos {p : Nat} (f : Nat → Bool) (hp : 0 < p) : 0 < plainP p f := by
  unfold plainP
  cases e : (List.range p).find? (isPer p f) with
  | none => simpa using hp
  | some q =>
    have := List.find?_some e
    simp only [isPer, Bool.and_eq_true, decide_eq_true_eq] at this
    simpa using this.1.1
def plainOf (P : Int) (n : Nat) (h : Nat → Int) : WV := if winB P n h 3600 then wvOk (plainP P.toNat (opn n h)) (opn n h) else wvErr 50

set_option maxHeartbeats 1000000 in
theorem wPlain_any (P : Int) (A : Option Addr) (n c : Nat) (h : Nat → Int) (w : World) (hh : HoursAt w A n h) :
    Calls Try.prog 58 #[.agg #[.int .i64 P, .slice A n c]] w (WinV w (plainOf P n h)) := by
  cases hw : winB P n h 3600
  · rw [show plainOf P n h = wvErr 50 by simp [plainOf, hw]]
    go_enter Try.func58, Try.ntmps58
    go_wp2_with (go_at_call 72; refine (newOpen_no _ _ _ _ _ _ _ ((hh.alloc _).alloc _) (by omega) hw).mono ?_; rintro e w1 ⟨rfl, hb1⟩; have hcc := bcell hb1; have hs1 : w.heap.size + 1 < w1.heap.size := (by have := hb1.size; simp at this; omega))
    refine bodyPost_ret (v := .tuple #[.agg #[.int .i64 0, .slice none 0 0], .int .i64 50]) (by simp [results, Try.results58, go_sem, hcc.1, hcc.2, hs1]) rfl ⟨none, 0, rfl, hoursGe_none _ _, ?_⟩
    exact (((box_trans _ (box_trans _ hb1)).setCell (p := ⟨w.heap.size + 1, 0, none⟩) (Nat.le_succ _) _).setCell (p := ⟨w.heap.size + 1, 1, none⟩) (Nat.le_succ _) _)
  · have hv := (winB_true.1 hw).1
    obtain ⟨p, rfl⟩ := Int.eq_ofNat_of_zero_le (show 0 ≤ P by omega)
    have hpl := plainP_le p (opn n h)
    rw [show plainOf p n h = wvOk (plainP p (opn n h)) (opn n h) by simp [plainOf, hw]]
    have HR0 : Hid (Blk ((w.alloc (.cells #[.int .i64 (p : Int), .slice A n c] 40)).alloc (.cells #[.int .i64 0, .slice none 0 0] 40)) (w.heap.size + 1) 40 #[.int .i64 0, .slice none 0 0]) := hid (by
      have := Blk.new (w.alloc (.cells #[.int .i64 (p : Int), .slice A n c] 40)) 40 #[.int .i64 0, .slice none 0 0]
      simpa using this)
    go_enter Try.func58, Try.ntmps58
    go_wp2_with (first
      | (go_at_call 72; refine (newOpen_yes _ _ _ _ _ _ _ ((hh.alloc _).alloc _) (by omega) hw).mono ?_; rintro e w1 ⟨g, rfl, hg, hblk, hb1⟩; have hs1 : w.heap.size + 1 < w1.heap.size := (by have := hb1.size; simp at this; omega); have hBo := hid (BoolsAt.of_blk hblk); clear hblk)
      | (go_at_call 77; refine (plain_any _ _ _ _ hBo.out (by omega) (by omega)).mono ?_; rintro e w2 ⟨rfl, m2, rfl⟩))
    have hR1 := hid ((HR0.out.below' hb1).drewN m2)
    have hw1 := hid (bdn (box_trans _ (box_trans _ hb1)) m2)
    have hB2 := hid ((hBo.out.drewN m2).upto_ _ hpl)
    have hs2 : (w1.drewN m2).heap.size = w1.heap.size := rfl
    have HS2 := hid hs2
    clear hb1 hs2
    generalize w1.drewN m2 = w2 at *
    go_wp2_with (go_at_call 92; refine (window_any _ _ _ _ _ hB2.out (by omega)).mono ?_; rintro e w4 ⟨A4, c4, rfl, hh4, hb4⟩; have hR4 := hR1.out.below' hb4; have hd0 := hR4.cell 0; have hd1 := hR4.cell 1; have hf0 := hR4.frozen 0; have hf1 := hR4.frozen 1; clear hR4; simp only [List.getElem?_toArray, List.getElem?_cons_succ, List.getElem?_cons_zero] at hd0 hd1)
    refine bodyPost_ret (v := .tuple #[.agg #[.int .i64 (plainP p (opn n h) : Nat), .slice A4 (hsL (opn n h) (plainP p (opn n h))).length c4], .int .i64 0]) (by simp [results, Try.results58, go_sem, hd0, hd1, hf0, hf1]) rfl ⟨A4, c4, rfl, ?_, ?_⟩
    · exact ((hh4.set_ (a := ⟨w.heap.size + 1, 0, none⟩) (by have := HS2.out; simp; omega) _).set_ (a := ⟨w.heap.size + 1, 1, none⟩) (by have := HS2.out; simp; omega) _).mono (by have := HS2.out; omega)
    · exact ((btr hw1.out hb4 (by have := HS2.out; omega)).setCell (p := ⟨w.heap.size + 1, 0, none⟩) (Nat.le_succ _) _).setCell (p := ⟨w.heap.size + 1, 1, none⟩) (Nat.le_succ _) _

/-- Equal -/
def eqWin (P : Int) (n : Nat) (h : Nat → Int) (Q : Int) (m : Nat) (k : Nat → Int) : Bool := decide (P = Q ∧ n = m) && !anyB n (fun i => h i != k i)
theorem eqWin_refl (P : Int) (n : Nat) (h : Nat → Int) : eqWin P n h P n h = true := by
  unfold eqWin; rw [anyB_false.2 fun i _ => by simp]; simp
theorem eqWin_true {P Q : Int} {n m : Nat} {h k : Nat → Int} : eqWin P n h Q m k = true ↔ (P = Q ∧ n = m) ∧ ∀ i, i < n → h i = k i := by
  unfold eqWin; rw [Bool.and_eq_true, decide_eq_true_iff, Bool.not_eq_true', anyB_false]; simp
set_option maxHeartbeats 1000000 in
theorem equal_any (P Q : Int) (A B : Option Addr) (n c m d : Nat) (h k : Nat → Int) (w : World) (hh : HoursAt w A n h) (hk : HoursAt w B m k) :
    Calls Try.prog 42 #[.agg #[.int .i64 P, .slice A n c], .agg #[.int .i64 Q, .slice B m d]] w fun e w' => e = .returned (.bool (eqWin P n h Q m k)) ∧ Below w.heap.size w w' := by
  have hw0 : Below w.heap.size w ((w.alloc (.cells #[.int .i64 P, .slice A n c] 40)).alloc (.cells #[.int .i64 Q, .slice B m d] 40)) := ((Below.refl _ _).alloc (Nat.le_refl _) _).alloc (by simp) _
  by_cases h1 : P = Q
  · subst h1
    by_cases h2 : n = m
    · subst h2
      have hn := hh.1
      have HH := hid ((hh.alloc (.cells #[.int .i64 P, .slice A n c] 40)).alloc (.cells #[.int .i64 P, .slice B n d] 40))
      have HK := hid ((hk.alloc (.cells #[.int .i64 P, .slice A n c] 40)).alloc (.cells #[.int .i64 P, .slice B n d] 40))
      go_enter Try.func42, Try.ntmps42
      go_wp2_with fail
      go_loopw [23] (fun i wr => ∃ x : Nat, x ≤ n ∧ i = .int .i64 x ∧ Hid (∀ j, j < x → h j = k j) ∧ ∃ t, wr = ((w.alloc (.cells #[.int .i64 P, .slice A n c] 40)).alloc (.cells #[.int .i64 P, .slice B n d] 40)).drewN t) (fun i _ => n - (intOf i).toNat)
      case atStart => exact ⟨0, by omega, rfl, hid (by omega), 0, rfl⟩
      case round =>
        obtain ⟨x, hx, rfl, HN, t, rfl⟩ := hrel
        by_cases hlt : x < n
        · obtain ⟨_, b1, o1, hb1, hA1, hc1⟩ := HH.out
          obtain ⟨_, b2, o2, hb2, hA2, hc2⟩ := HK.out
          obtain rfl := hA1 (by omega)
          obtain rfl := hA2 (by omega)
          have hc1 := hc1 x hlt
          have hc2 := hc2 x hlt
          by_cases he : h x = k x
          · have hb : (h x != k x) = false := by simpa using he
            have HE := hid he
            clear he
            go_wp2
            go_quiet (fail)
            go_wp2
            go_roundw
            case rel => exact ⟨x + 1, by omega, by go_num, hid (fun j hj => by (by_cases e : j = x; (subst e; exact HE.out); exact HN.out j (by omega))), t + nq, by simp⟩
            case measure => simp [intOf]; omega
          · have hb : (h x != k x) = true := by simpa using he
            have HE : Hid (eqWin P n h P n k = false) := by
              cases e : eqWin P n h P n k
              · rfl
              · exact absurd ((eqWin_true.1 e).2 x hlt) he
            clear he
            go_wp2
            go_quiet (fail)
            go_wp2
            go_ret
            exact ⟨ret_bool (by rw [HE.out]), bdn (bdn hw0 _) _⟩
        · have HE := hid (eqWin_true.2 ⟨⟨rfl, rfl⟩, fun j hj => HN.out j (by omega)⟩ : eqWin P n h P n k = true)
          go_wp2
          go_ret
          exact ⟨ret_bool (by rw [HE.out]), bdn hw0 _⟩
    · have hb : ((n : Int) != (m : Int)) = true := by simp; omega
      have HE : Hid (eqWin P n h P m k = false) := by
        cases e : eqWin P n h P m k
        · rfl
        · exact absurd (eqWin_true.1 e).1.2 h2
      clear h2
      go_enter Try.func42, Try.ntmps42
      go_wp2
      go_ret
      exact ⟨ret_bool (by rw [HE.out]), hw0⟩
  · have hb : (P != Q) = true := by simpa using h1
    have HE : Hid (eqWin P n h Q m k = false) := by
      cases e : eqWin P n h Q m k
      · rfl
      · exact absurd (eqWin_true.1 e).1.1 h1
    clear h1
    go_enter Try.func42, Try.ntmps42
    go_wp2
    go_ret
    exact ⟨ret_bool (by rw [HE.out]), hw0⟩
end Go.Proofs.Ytfabpkcgdblnbaa
