/-
  SameInts. Conditions: the lists lie in memory.
-/
import Derived.Test.YtmhlgnhfbickdaaDoorP9
import Derived.Test.YtmhlgnhfbickdaaDoorMem
import Derived.Test.YtmhlgnhfbickdaaDoorMath4
import Derived.Deep.Cut
import Derived.Deep.CutRange
namespace Go.Proofs.YtmhlgnhfbickdaaDoor
set_option linter.unusedVariables false
set_option linter.unusedSimpArgs false
open Go.RowKit Go.Shelf

/-- two lists of numbers are the same -/
def sameB (n m : Nat) (f g : Nat → Int) : Bool := decide (n = m) && !anyB n (fun i => decide (f i ≠ g i))
theorem sameB_len {n m : Nat} {f g : Nat → Int} (h : n ≠ m) : sameB n m f g = false := by simp [sameB, h]
theorem sameB_bad {n i : Nat} {f g : Nat → Int} (hi : i < n) (h : f i ≠ g i) : sameB n n f g = false := by
  unfold sameB; rw [anyB_true.2 ⟨i, hi, by simpa using h⟩]; simp
theorem sameB_ok {n : Nat} {f g : Nat → Int} (h : ∀ i, i < n → f i = g i) : sameB n n f g = true := by
  unfold sameB; rw [anyB_false.2 fun i hi => by simpa using h i hi]; simp
set_option maxHeartbeats 1000000 in
/-- skimmerref09.SameInts -/
theorem same_any (A C : Option Addr) (n m ca cb : Nat) (f g : Nat → Int) (w : World) (ha : HoursAt w A n f) (hb : HoursAt w C m g) :
    Calls Tryd.prog 37 #[.slice A n ca, .slice C m cb] w fun e w' => e = .returned (.bool (sameB n m f g)) ∧ Below w.heap.size w w' := by
  obtain ⟨hn, b1, o1, hlt1, hA1, hc1⟩ := ha
  obtain ⟨hm, b2, o2, hlt2, hA2, hc2⟩ := hb
  by_cases hl : n = m
  · subst hl
    go_enter Tryd.func37, Tryd.ntmps37
    go_wp2_with fail
    go_loopw [13] (fun i wr => ∃ k : Nat, k ≤ n ∧ i = .int .i64 k ∧ Hid (∀ j, j < k → f j = g j) ∧ Hid (Below w.heap.size w wr)) (fun i _ => n - (intOf i).toNat)
    case atStart => exact ⟨0, by omega, rfl, hid (by omega), hid (Below.refl _ _)⟩
    case round =>
      obtain ⟨k, hk, rfl, HN, HB⟩ := hrel
      by_cases hlt : k < n
      · obtain rfl := hA1 (by omega)
        obtain rfl := hA2 (by omega)
        have x1 := (HB.out.cell (p := ⟨b1, o1 + k, none⟩) (hlt1 (by omega))).trans (hc1 k hlt)
        have x2 := (HB.out.cell (p := ⟨b2, o2 + k, none⟩) (hlt2 (by omega))).trans (hc2 k hlt)
        have HC1 := hid hc1
        have HC2 := hid hc2
        clear hc1 hc2
        by_cases he : f k = g k
        · have HE := hid he
          have hd : ((f k) != (g k)) = false := by simpa using he
          clear he
          go_wp2
          go_quiet (fail)
          go_wp2
          go_roundw
          case rel => exact ⟨k + 1, by omega, by go_num, hid (fun j hj => by (by_cases e : j = k; (subst e; exact HE.out); exact HN.out j (by omega))), hid (bdn HB.out _)⟩
          case measure => simp [intOf]; omega
        · have HE := hid (sameB_bad hlt he)
          have hd : ((f k) != (g k)) = true := by simpa using he
          clear he
          go_wp2
          go_quiet (fail)
          go_wp2
          go_ret
          exact ⟨ret_bool (by rw [HE.out]), bdn HB.out _⟩
      · have HE := hid (sameB_ok (n := n) fun i hi => HN.out i (by omega))
        clear hc1 hc2
        go_wp2
        go_ret
        exact ⟨ret_bool (by rw [HE.out]), HB.out⟩
  · have hb : ((n : Int) != (m : Int)) = true := by simp; omega
    have HE := hid (sameB_len (f := f) (g := g) hl)
    clear hl hc1 hc2
    go_enter Tryd.func37, Tryd.ntmps37
    go_wp2
    go_ret
    exact ⟨ret_bool (by rw [HE.out]), Below.refl _ _⟩
theorem sameB_list {l1 l2 : List Int} : sameB l1.length l2.length (fun i => l1.getD i 0) (fun i => l2.getD i 0) = decide (l1 = l2) := by
  by_cases h : l1 = l2
  · subst h
    rw [sameB_ok (fun _ _ => rfl)]; simp
  · rw [decide_eq_false h]
    by_cases hl : l1.length = l2.length
    · have : ∃ i, i < l1.length ∧ l1.getD i 0 ≠ l2.getD i 0 := by
        apply Classical.byContradiction
        intro hn
        apply h
        apply List.ext_getElem hl
        intro i h1 h2
        apply Classical.byContradiction
        intro h3
        exact hn ⟨i, h1, by simpa [h1, h2] using h3⟩
      obtain ⟨i, hi, hne⟩ := this
      rw [← hl]
      exact sameB_bad hi hne
    · exact sameB_len hl
/-- .. told by lists -/
theorem sameL_any (v u : Value) (l1 l2 : List Int) (w : World) (ha : IntsV w v l1) (hb : IntsV w u l2) :
    Calls Tryd.prog 37 #[v, u] w fun e w' => e = .returned (.bool (decide (l1 = l2))) ∧ Below w.heap.size w w' := by
  obtain ⟨A, ca, rfl, ha⟩ := ha
  obtain ⟨C, cb, rfl, hb⟩ := hb
  rw [← sameB_list]
  exact same_any A C _ _ ca cb _ _ w ha hb

end Go.Proofs.YtmhlgnhfbickdaaDoor
