/-
  Plain laws for TopWindow: windows that are open at one hour of a period each. Conditions: the rounds are valid.
-/
import Derived.Test.YtfabpkcgdblnbaaV22
import Derived.Test.YtfabpkcgdblnbaaW6
namespace Go.Proofs.Ytfabpkcgdblnbaa
set_option linter.unusedVariables false
set_option linter.unusedSimpArgs false
open Go.RowKit

def oneN (_ : Nat) : Nat := 1
def oneH (ra : Nat → Int) (i : Nat) (_ : Nat) : Int := ra i
def topG (ra re : Nat → Int) (n : Nat) : Nat → Bool := allB n (perW re) (opW oneN (oneH ra))
theorem one_win {a e : Int} (h : 1 ≤ e ∧ e ≤ 60 ∧ 0 ≤ a ∧ a < e) : winB e 1 (fun _ => a) 60 = true := by
  refine winB_true.2 ⟨⟨h.1, h.2.1⟩, fun i hi => ⟨⟨h.2.2.1, h.2.2.2⟩, fun h0 => by omega⟩⟩
theorem top_bad {ra re : Nat → Int} {n : Nat} (hv : Valids ra re n) (h60 : ∀ i, i < n → re i ≤ 60) : anyB n (badW re oneN (oneH ra)) = false :=
  anyB_false.2 fun i hi => by
    unfold badW
    rw [show winB (re i) (oneN i) (oneH ra i) 60 = true from one_win ⟨(hv i hi).1, h60 i hi, (hv i hi).2.2.1, (hv i hi).2.2.2⟩]; rfl
theorem top_code {ra re : Nat → Int} {n : Nat} (hv : Valids ra re n) (h60 : ∀ i, i < n → re i ≤ 60) (hn : 1 ≤ n ∧ n ≤ 4) : codeW re n oneN (oneH ra) true = if 100000 < lcmN (perW re) n then 4 else 0 := by
  unfold codeW
  rw [if_neg (by rw [top_bad hv h60]; simp), if_neg (by rw [btw_true (by omega) (by omega)]; simp)]
theorem top_lcm {re : Nat → Int} (n : Nat) (h : ∀ i, i < n → 1 ≤ re i) : ((lcmN (perW re) n : Nat) : Int) = lcmUp re n := by
  induction n with
  | zero => rfl
  | succ n ih =>
    have e : re n = ((perW re n : Nat) : Int) := by unfold perW; have := h n (by omega); omega
    show ((Nat.lcm (lcmN (perW re) n) (perW re n) : Nat) : Int) = lcmI (lcmUp re n) (re n)
    rw [← ih fun i hi => h i (by omega), e, lcmI_nat]
theorem top_all {ra re : Nat → Int} {n : Nat} (h : ∀ i, i < n → 1 ≤ re i) (x : Nat) : topG ra re n x = true ↔ InAll ra re n x := by
  unfold topG
  induction n with
  | zero => exact ⟨fun _ i hi => by omega, fun _ => rfl⟩
  | succ n ih =>
    rw [allB_succ, Bool.and_eq_true, ih fun i hi => h i (by omega)]
    have e : re n = ((perW re n : Nat) : Int) := by unfold perW; have := h n (by omega); omega
    have k : opW oneN (oneH ra) n (x % perW re n) = true ↔ (x : Int) % re n = ra n := by
      unfold opW oneN oneH opn
      rw [anyB_true, e, show perW re n = perW re n from rfl]
      constructor
      · rintro ⟨i, _, hi⟩
        have : ra n = ((x % perW re n : Nat) : Int) := eq_of_beq hi
        omega
      · intro hx
        exact ⟨0, by omega, by rw [beq_iff_eq]; show ra n = ((x % perW re n : Nat) : Int); omega⟩
    rw [k]
    constructor
    · rintro ⟨h1, h2⟩; exact h1.snoc h2
    · exact fun h1 => ⟨h1.mono (by omega), h1 n (by omega)⟩
/-- where they never meet, no hour is open for all -/
theorem top_never {ra re : Nat → Int} {n i k : Nat} (hv : Valids ra re n) (hi : i < n) (hk : k < n) (hn : nev ra re i k = true) (x : Nat) : topG ra re n x = false := by
  cases e : topG ra re n x
  · rfl
  · have := nev_of_meet ((top_all (fun i hi => (hv i hi).1) x).1 e) hi hk
    rw [this] at hn; cases hn
theorem top_cnt0 {ra re : Nat → Int} {n i k L : Nat} (hv : Valids ra re n) (hi : i < n) (hk : k < n) (hn : nev ra re i k = true) : cnt L (topG ra re n) = 0 := by
  rw [cnt_flat (a := 0) (b := L) (by omega) fun j _ _ => top_never hv hi hk hn j]; rfl
/-- where they meet, one is -/
theorem top_cnt1 {ra re : Nat → Int} {n : Nat} (hv : Valids ra re n) (hm : Met ra re n) : cnt (lcmN (perW re) n) (topG ra re n) = 1 := by
  have h1 := fun i hi => (hv i hi).1
  have hL := top_lcm n h1
  obtain ⟨m1, m2, m3⟩ := hm
  obtain ⟨a, ha⟩ := Int.eq_ofNat_of_zero_le m2
  rw [ha] at m1 m3
  have ga : topG ra re n a = true := (top_all h1 a).2 m1
  have hu : ∀ j : Nat, j < lcmN (perW re) n → j ≠ a → topG ra re n j = false := by
    intro j hj hne
    cases e : topG ra re n j
    · rfl
    · have := InAll.eq h1 ((top_all h1 j).1 e) m1 ⟨by omega, by omega⟩ ⟨by omega, by omega⟩
      omega
  have hal : a < lcmN (perW re) n := by omega
  rw [cnt_flat (a := a + 1) (b := lcmN (perW re) n) (by omega) fun j h1 h2 => hu j h2 (by omega), cnt_succ, ga, cnt_flat (a := 0) (b := a) (by omega) fun j _ h2 => hu j (by omega) (by omega)]
  rfl
theorem top_first {ra re : Nat → Int} {n : Nat} (hv : Valids ra re n) (hm : Met ra re n) (hz : codeW re n oneN (oneH ra) true = 0) (y : Nat) (hy : (y : Int) ≤ 1000000000) :
    firstOf re n oneN (oneH ra) y = ((y : Int) + ((meetUp ra re n - (y : Int)).tmod (lcmUp re n) + lcmUp re n).tmod (lcmUp re n), 0) := by
  have h1 := fun i hi => (hv i hi).1
  have hL := top_lcm n h1
  have hpos := lcmUp_pos n h1
  rw [emod_of_tmod _ _ (by omega)]
  have r1 := Int.emod_nonneg (meetUp ra re n - (y : Int)) (b := lcmUp re n) (by omega)
  have r2 := Int.emod_lt_of_pos (meetUp ra re n - (y : Int)) (b := lcmUp re n) (by omega)
  have hd := Int.mul_ediv_add_emod (meetUp ra re n - (y : Int)) (lcmUp re n)
  generalize hq : (meetUp ra re n - (y : Int)) / lcmUp re n = q at *
  generalize hr : (meetUp ra re n - (y : Int)) % lcmUp re n = r at *
  obtain ⟨z, hz2⟩ := Int.eq_ofNat_of_zero_le (show 0 ≤ (y : Int) + r by omega)
  have hin : InAll ra re n (z : Int) := by
    have := hm.1.shift h1 (j := -q)
    have e : meetUp ra re n + -q * lcmUp re n = (z : Int) := by
      have e2 : -q * lcmUp re n = -(lcmUp re n * q) := by rw [Int.neg_mul, Int.mul_comm]
      rw [e2]; omega
    rw [e] at this; exact this
  rw [hz2]
  refine firstOf_hit (by rw [btw_true (by omega) hy]; exact hz) (by omega) (by omega) ((top_all h1 z).2 hin) fun j j1 j2 => ?_
  cases e : allB n (perW re) (opW oneN (oneH ra)) j
  · rfl
  · obtain ⟨t, ht⟩ := InAll.apart h1 ((top_all h1 j).1 e) hin
    exfalso
    have b1 : (j : Int) - z < 0 := by omega
    have b2 : - lcmUp re n < (j : Int) - z := by omega
    rw [ht] at b1 b2
    rcases Int.lt_trichotomy t 0 with h | h | h
    · have := Int.mul_le_mul_of_nonneg_left (show t ≤ -1 by omega) (show 0 ≤ lcmUp re n by omega)
      omega
    · rw [h] at b1; omega
    · have := Int.mul_le_mul_of_nonneg_left (show 1 ≤ t by omega) (show 0 ≤ lcmUp re n by omega)
      omega

/-! ### the windows in memory -/
def winsV (re : Nat → Int) (g : Nat → Nat) (k : Nat) : List Value := (List.range k).flatMap fun i => [.int .i64 (re i), .slice (some ⟨g i, 0, none⟩) 1 1]
theorem winsV_snoc (re : Nat → Int) (g : Nat → Nat) (k x : Nat) : winsV re (fun i => if i = k then x else g i) (k + 1) = winsV re g k ++ [.int .i64 (re k), .slice (some ⟨x, 0, none⟩) 1 1] := by
  unfold winsV
  rw [List.range_succ, List.flatMap_append]
  congr 1
  · rw [List.flatMap_def, List.flatMap_def]
    congr 1
    exact List.map_congr_left fun j hj => by
      have hne : ¬ j = k := by have := List.mem_range.1 hj; omega
      simp [hne]
  · simp
theorem winsV_same (re : Nat → Int) (g : Nat → Nat) (k : Nat) : winsV re g (k + 1) = winsV re g k ++ [.int .i64 (re k), .slice (some ⟨g k, 0, none⟩) 1 1] := by
  unfold winsV
  rw [List.range_succ, List.flatMap_append]; simp
theorem winsV_len (re : Nat → Int) (g : Nat → Nat) (k : Nat) : (winsV re g k).length = k * 2 := by
  induction k with
  | zero => rfl
  | succ k ih => rw [winsV_same, List.length_append, ih]; simp; omega
theorem winsV_get {re : Nat → Int} {g : Nat → Nat} : ∀ {k i : Nat}, i < k → (winsV re g k)[i * 2]? = some (.int .i64 (re i)) ∧ (winsV re g k)[i * 2 + 1]? = some (.slice (some ⟨g i, 0, none⟩) 1 1) := by
  intro k
  induction k with
  | zero => intro i hi; omega
  | succ k ih =>
    intro i hi
    have hl := winsV_len re g k
    rw [winsV_same]
    by_cases e : i = k
    · subst e
      rw [List.getElem?_append_right (by omega), List.getElem?_append_right (by omega), hl]
      simp [show i * 2 + 1 - i * 2 = 1 by omega]
    · rw [List.getElem?_append_left (by omega), List.getElem?_append_left (by omega)]
      exact ih (by omega)
theorem own_wins {w : World} {base n c : Nat} {A : Option Addr} {ra re : Nat → Int} {g : Nat → Nat} (h : w.ownsRow base 40 2 (.slice A n c) n (winsV re g n)) (hn : n ≤ 1000000)
    (hr : ∀ i, i < n → Blk w (g i) 3 #[.int .i64 (ra i)]) : WinsAt w A n re (fun i => some ⟨g i, 0, none⟩) oneN oneN (oneH ra) := by
  rcases h.2 with ⟨_, h0⟩ | ⟨g', cap, cur, hv, hgb, hh, _⟩
  · subst h0
    exact ⟨by omega, 0, 0, by omega, by omega, by omega⟩
  · injection hv with hA
    subst hA
    have hc : ∀ j u, (winsV re g n)[j]? = some u → w.cell? ⟨g', j, none⟩ = some u := fun j u hj => by
      have := h.cells (g := g') rfl j u hj
      by_cases h0 : j = 0
      · subst h0; simpa [Addr.add] using this
      · simpa [Addr.add, h0] using this
    refine ⟨by omega, g', 0, fun _ => ?_, fun _ => rfl, fun i hi => ⟨⟨?_, ?_⟩, ?_⟩⟩
    · rcases Nat.lt_or_ge g' w.heap.size with hlt | hge
      · exact hlt
      · rw [Array.getElem?_eq_none hge] at hh; cases hh
    · rw [Nat.zero_add]; exact hc _ _ (winsV_get hi).1
    · rw [Nat.zero_add]; exact hc _ _ (winsV_get hi).2
    · refine ⟨by unfold oneN; omega, g i, 0, fun _ => (hr i hi).lt, fun _ => rfl, fun j hj => ?_⟩
      have : j = 0 := by unfold oneN at hj; omega
      subst this
      exact ((hr i hi).cell 0).trans rfl
end Go.Proofs.Ytfabpkcgdblnbaa
