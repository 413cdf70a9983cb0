/-
  Small lemmas that all the texts of this seat use: endings, worlds that are later, slices that read as a list. Conditions: none.
-/
import Derived.Test.YtfabpkcgdblnbaaProg
import Derived.WalkKit
import Derived.WalkSpells
import Derived.BigQuiet
import Derived.Deep.QuietTactic
namespace Go.Proofs.Ytfabpkcgdblnbaa
set_option linter.unusedVariables false
set_option linter.unusedSimpArgs false
open Go.RowKit

theorem ret_int {k : IntKind} {a b : Int} (h : a = b) : Ending.returned (.int k a) = .returned (.int k b) := by rw [h]
theorem ret_bool {a b : Bool} (h : a = b) : Ending.returned (.bool a) = .returned (.bool b) := by rw [h]
theorem hid {p : Prop} (h : p) : Hid p := h
theorem bdn {B : Nat} {a w : World} (h : Below B a w) (n : Nat) : Below B a (w.drewN n) := h.trans ⟨rfl, rfl, rfl, Nat.le_refl _, fun _ _ => rfl⟩
theorem bdr {B : Nat} (w : World) (n : Nat) : Below B w (w.drewN n) := bdn (Below.refl _ _) n
theorem btr {B : Nat} {a w w1 : World} (h : Below B a w) (h1 : Below w.heap.size w w1) (hB : B ≤ w.heap.size) : Below B a w1 := h.trans (h1.mono hB)
/-- every old cell reads as before -/
theorem bcell {B : Nat} {W w1 : World} (hb : Below B W w1) : (∀ b o, b < B → w1.cell? ⟨b, o, none⟩ = W.cell? ⟨b, o, none⟩) ∧ (∀ b o, b < B → w1.frozen? ⟨b, o, none⟩ = W.frozen? ⟨b, o, none⟩) :=
  ⟨fun b o h => hb.cell (p := ⟨b, o, none⟩) h, fun b o h => hb.frozen (p := ⟨b, o, none⟩) h⟩

/-- the first place that a test lets by, as the code tells it; whether there is one -/
def idxB (n : Nat) (f : Nat → Bool) : Int := match (List.range n).find? f with | some i => (i : Int) | none => -1
def anyB (n : Nat) (f : Nat → Bool) : Bool := (List.range n).any f
theorem anyB_true {n : Nat} {f : Nat → Bool} : anyB n f = true ↔ ∃ i, i < n ∧ f i = true := by simp [anyB]
theorem anyB_false {n : Nat} {f : Nat → Bool} : anyB n f = false ↔ ∀ i, i < n → f i = false := by simp [anyB]
theorem idxB_none {n : Nat} {f : Nat → Bool} (h : ∀ j, j < n → f j = false) : idxB n f = -1 := by
  unfold idxB
  rw [List.find?_eq_none.2 (by simpa using h)]
theorem idxB_some {n k : Nat} {f : Nat → Bool} (hk : k < n) (hf : f k = true) (h : ∀ j, j < k → f j = false) : idxB n f = k := by
  unfold idxB
  have : (List.range n).find? f = some k := by
    rw [List.find?_range_eq_some]
    exact ⟨hf, by simpa using hk, fun j hj => by simpa using h j hj⟩
  rw [this]
theorem idxB_any {n : Nat} {f : Nat → Bool} : decide (0 ≤ idxB n f) = anyB n f := by
  unfold idxB anyB
  cases h : (List.range n).find? f with
  | none =>
    have := List.find?_eq_none.1 h
    have h2 : (List.range n).any f = false := by
      rw [List.any_eq_false]; exact this
    rw [h2]; rfl
  | some i =>
    have h1 := List.find?_some h
    have h2 := List.mem_of_find?_eq_some h
    have h3 : (List.range n).any f = true := by rw [List.any_eq_true]; exact ⟨i, h2, h1⟩
    rw [h3]; simp

/-- A world behind some work that has left everything below B as it was. -/
structure Later (B : Nat) (w : World) where
  up : World
  bel : Below B w up
instance Later.inh {B : Nat} {w : World} : Nonempty (Later B w) := ⟨⟨w, Below.refl _ _⟩⟩
theorem Later.cells {B : Nat} {w : World} {b o : Nat} {v : Value} (h : w.cell? ⟨b, o, none⟩ = some v) (hb : b < B) : ∀ x : Later B w, x.up.cell? ⟨b, o, none⟩ = some v :=
  fun x => (x.bel.cell (p := ⟨b, o, none⟩) hb).trans h
theorem Calls.later_of {P : Program} {f : FuncId} {args : Array Value} {B : Nat} {w : World} {x : Later B w} {v : Value} (hB : B ≤ w.heap.size)
    (h : Calls P f args x.up fun e w' => e = .returned v ∧ Below x.up.heap.size x.up w') :
    Calls P f args x.up fun e w'' => e = .returned v ∧ ∃ y : Later B w, w'' = y.up :=
  h.mono fun _ w' ⟨he, hb⟩ => ⟨he, ⟨w', x.bel.trans (hb.mono (Nat.le_trans hB x.bel.size))⟩, rfl⟩
theorem wp_region_later {P : Program} {id : Nat} {Q : Exit → Act → World → Prop} {a : Act} {w : World} {l : List Oper} (B : Nat) (hm : P.follows .mixedOrders = true) (hB : Region.lexB .any l.toArray = true)
    (h : wpQuiet P l.toArray (fun w' => ∃ x : Later B w, w' = x.up) (fun a' => ∀ w', (∃ x : Later B w, w' = x.up) → Q .normal a' w') l a) : (Code.region id l.toArray true).wp P Q a w :=
  wp_region_quiet (C := fun w' => ∃ x : Later B w, w' = x.up) hm hB ⟨⟨_, bdr w 1⟩, rfl⟩ (by simpa using h)

def btw (a n b : Int) : Bool := decide (a ≤ n ∧ n ≤ b)
theorem btw_true {a n b : Int} (h1 : a ≤ n) (h2 : n ≤ b) : btw a n b = true := by simp [btw, h1, h2]
theorem btw_false {a n b : Int} (h : n < a ∨ b < n) : btw a n b = false := by simp [btw]; omega
theorem btw_iff {a n b : Int} : btw a n b = true ↔ a ≤ n ∧ n ≤ b := by simp [btw]
theorem btw_iff' {a n b : Int} : btw a n b = false ↔ ¬ (a ≤ n ∧ n ≤ b) := by simp [btw]

/-- window.between -/
theorem between_any (a n b : Int) (w : World) :
    Calls Try.prog 68 #[.int .i64 a, .int .i64 n, .int .i64 b] w fun e w' => e = .returned (.bool (btw a n b)) ∧ w = w' := by
  by_cases h1 : a ≤ n
  · by_cases h2 : n ≤ b
    · go_enter Try.func68, Try.ntmps68
      go_wp2
      go_ret
      exact ⟨by simp [btw_true h1 h2, h1, h2], rfl⟩
    · go_enter Try.func68, Try.ntmps68
      go_wp2
      go_ret
      exact ⟨by simp [btw_false (a := a) (n := n) (b := b) (by omega), h1, h2], rfl⟩
  · go_enter Try.func68, Try.ntmps68
    go_wp2
    go_ret
    exact ⟨by simp [btw_false (a := a) (n := n) (b := b) (by omega)], rfl⟩

theorem gcd_step (a b : Int) (ha : 0 ≤ a) (hb : 0 ≤ b) : Int.gcd b (a % b) = Int.gcd a b := by
  obtain ⟨m, rfl⟩ := Int.eq_ofNat_of_zero_le ha
  obtain ⟨n, rfl⟩ := Int.eq_ofNat_of_zero_le hb
  show Nat.gcd n (m % n) = Nat.gcd m n
  rw [Nat.gcd_comm n, ← Nat.gcd_rec, Nat.gcd_comm]
theorem gcd_end (a : Int) (ha : 0 ≤ a) : (Int.gcd a 0 : Int) = a := by simp; omega
theorem gcd_pos (a b : Int) (ha : 0 < a) : (1 : Int) ≤ Int.gcd a b := by
  have := Int.gcd_pos_of_ne_zero_left b (a := a) (by omega); omega
theorem gcd_le (a b : Int) (ha : 0 < a) : (Int.gcd a b : Int) ≤ a := Int.le_of_dvd ha (Int.gcd_dvd_left ..)
/-- window.divisor -/
theorem divisor_any (a b : Int) (w : World) (ha : 0 ≤ a) (hb : 0 ≤ b) (ha' : a ≤ 9223372036854775807) (hb' : b ≤ 9223372036854775807) :
    Calls Try.prog 87 #[.int .i64 a, .int .i64 b] w fun e w' => e = .returned (.int .i64 (Int.gcd a b)) ∧ ∃ m, w' = w.drewN m := by
  go_enter Try.func87, Try.ntmps87
  go_wp2
  go_loopw [0, 1] (fun x y wr => ∃ p q : Int, 0 ≤ p ∧ p ≤ 9223372036854775807 ∧ 0 ≤ q ∧ q ≤ 9223372036854775807 ∧ x = .int .i64 p ∧ y = .int .i64 q ∧ Int.gcd p q = Int.gcd a b ∧ ∃ m, wr = w.drewN m) (fun _ y _ => (intOf y).toNat)
  case atStart => exact ⟨a, b, ha, ha', hb, hb', rfl, rfl, rfl, 0, rfl⟩
  case round =>
    obtain ⟨p, q, hp, hp', hq, hq', rfl, rfl, hg, m, rfl⟩ := hrel
    have HG := hid hg
    clear hg
    by_cases hz : 0 < q
    · have hne : (q == 0) = false := by simp; omega
      have m1 := Int.emod_nonneg p (b := q) (by omega)
      have m2 := Int.emod_lt_of_pos p hz
      go_wp2
      go_quiet (fail)
      go_wp2
      go_roundw
      case rel => exact ⟨q, p % q, by omega, by omega, by omega, by omega, rfl, rfl, by rw [gcd_step p q hp (by omega)]; exact HG.out, m + nq, by simp⟩
      case measure => simp [intOf]; omega
    · obtain rfl : q = 0 := by omega
      go_wp2
      go_ret
      exact ⟨ret_int (by rw [← HG.out, gcd_end p hp]), m, rfl⟩

/-- the least common multiple, as the code reckons it -/
def lcmI (a b : Int) : Int := a / (Int.gcd a b : Int) * b
theorem lcmI_pos (a b : Int) (ha : 0 < a) (hb : 0 < b) : 1 ≤ lcmI a b := by
  unfold lcmI
  have h1 := gcd_pos a b ha
  have h2 := gcd_le a b ha
  have h3 : 1 ≤ a / (Int.gcd a b : Int) := (Int.le_ediv_iff_mul_le (by omega)).2 (by omega)
  have := Int.mul_le_mul h3 (show (1 : Int) ≤ b by omega) (by omega) (by omega)
  omega
theorem lcmI_le (a b : Int) (ha : 0 < a) (hb : 0 < b) : lcmI a b ≤ a * b := by
  unfold lcmI
  exact Int.mul_le_mul_of_nonneg_right (Int.ediv_le_self _ (by omega)) (by omega)
/-- window.common -/
theorem common_any (a b : Int) (w : World) (ha : 0 < a) (hb : 0 < b) (hb' : b ≤ 9223372036854775807) (hab : a * b ≤ 9223372036854775807) (ha' : a ≤ 9223372036854775807) :
    Calls Try.prog 65 #[.int .i64 a, .int .i64 b] w fun e w' => e = .returned (.int .i64 (lcmI a b)) ∧ ∃ m, w' = w.drewN m := by
  have h1 := gcd_pos a b ha
  have h2 := lcmI_pos a b ha hb
  have h3 := lcmI_le a b ha hb
  have e1 : a / (Int.gcd a b : Int) * b = lcmI a b := rfl
  have E1 := hid e1
  clear e1
  go_enter Try.func65, Try.ntmps65
  go_wp2_with (go_at_call 87; refine (divisor_any _ _ _ (by omega) (by omega) (by omega) (by omega)).mono ?_; rintro e w' ⟨rfl, m, rfl⟩)
  go_ret
  exact ⟨ret_int (by rw [E1.out]; exact IntWalk.wrap64_in _ (by omega)), m, rfl⟩
/-- skimmerref05.multiple -/
theorem multiple_any (a b : Int) (w : World) (ha : 0 < a) (hb : 0 < b) (hb' : b ≤ 9223372036854775807) (hab : a * b ≤ 9223372036854775807) (ha' : a ≤ 9223372036854775807) :
    Calls Try.prog 66 #[.int .i64 a, .int .i64 b] w fun e w' => e = .returned (.int .i64 (lcmI a b)) ∧ ∃ m, w' = w.drewN m := by
  have h1 := gcd_pos a b ha
  have h2 := lcmI_pos a b ha hb
  have h3 := lcmI_le a b ha hb
  have e1 : a / (Int.gcd a b : Int) * b = lcmI a b := rfl
  have E1 := hid e1
  clear e1
  go_enter Try.func66, Try.ntmps66
  go_wp2
  go_loopw [5, 6] (fun x y wr => ∃ p q : Int, 0 ≤ p ∧ p ≤ 9223372036854775807 ∧ 0 ≤ q ∧ q ≤ 9223372036854775807 ∧ x = .int .i64 p ∧ y = .int .i64 q ∧ Int.gcd p q = Int.gcd a b ∧ ∃ m, wr = w.drewN m) (fun _ y _ => (intOf y).toNat)
  case atStart => exact ⟨a, b, by omega, by omega, by omega, by omega, rfl, rfl, rfl, 0, rfl⟩
  case round =>
    obtain ⟨p, q, hp, hp', hq, hq', rfl, rfl, hg, m, rfl⟩ := hrel
    by_cases hz : 0 < q
    · have HG := hid hg
      clear hg
      have hne : (q == 0) = false := by simp; omega
      have hne' : (q != 0) = true := by simp; omega
      have m1 := Int.emod_nonneg p (b := q) (by omega)
      have m2 := Int.emod_lt_of_pos p hz
      go_wp2
      go_quiet (fail)
      go_wp2
      go_roundw
      case rel => exact ⟨q, p % q, by omega, by omega, by omega, by omega, rfl, rfl, by rw [gcd_step p q hp (by omega)]; exact HG.out, m + nq, by simp⟩
      case measure => simp [intOf]; omega
    · obtain rfl : q = 0 := by omega
      have hp2 : p = (Int.gcd a b : Int) := by rw [← hg, gcd_end p hp]
      subst hp2
      clear hg
      go_wp2
      go_ret
      exact ⟨ret_int (by rw [E1.out]; exact IntWalk.wrap64_in _ (by omega)), m, rfl⟩
end Go.Proofs.Ytfabpkcgdblnbaa
