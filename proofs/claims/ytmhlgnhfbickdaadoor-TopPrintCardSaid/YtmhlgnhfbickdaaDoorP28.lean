/-
  Tables that a call makes row by row; SameTables. Conditions: stated at each.
-/
import Derived.Test.YtmhlgnhfbickdaaDoorP15
namespace Go.Proofs.YtmhlgnhfbickdaaDoor
set_option linter.unusedVariables false
set_option linter.unusedSimpArgs false
open Go.RowKit Go.Shelf

theorem own_apart {w : World} {base e e' size size' n n' : Nat} {v v' : Value} {xs xs' : List Value} (h : w.ownsRow base e size v n xs) (h' : w.ownsRow base e' size' v' n' xs') (hne : e ≠ e') : v = .slice none 0 0 ∨ v.ownBlock ≠ v'.ownBlock := by
  rcases h.2 with ⟨rfl, _⟩ | ⟨g, cap, cur, rfl, _, hg, _⟩
  · exact .inl rfl
  · refine .inr ?_
    rcases h'.2 with ⟨rfl, _⟩ | ⟨g', cap', cur', rfl, _, hg', _⟩
    · simp [Value.ownBlock]
    · simp [Value.ownBlock]
      rintro rfl
      rw [hg] at hg'
      injection hg' with hg'
      injection hg' with _ ht
      exact hne ht
def rowL (nt : Nat) (f : Nat → Int) : List Value := (List.range nt).map fun k => Value.int .i64 (f k)
theorem rowL_succ (nt : Nat) (f : Nat → Int) : rowL (nt + 1) f = rowL nt f ++ [.int .i64 (f nt)] := by unfold rowL; rw [List.range_succ, List.map_append]; rfl
theorem rowL_len (nt : Nat) (f : Nat → Int) : (rowL nt f).length = nt := by simp [rowL]
theorem hours_own {w : World} {base nt : Nat} {A : Option Addr} {cap : Nat} {f : Nat → Int} (h : w.ownsRow base 3 1 (.slice A nt cap) nt (rowL nt f)) (hn : nt ≤ 9223372036854775807) : HoursAt w A nt f := by
  have h' : w.ownsRow base 3 1 (.slice A nt cap) nt (((List.range nt).map f).map (Value.int .i64)) := by
    rw [List.map_map]; exact h
  obtain ⟨A', cap', he, hh⟩ := IntsV.own h' (by simp) (by simpa using hn)
  simp only [Value.slice.injEq, List.length_map, List.length_range] at he
  obtain ⟨rfl, _, rfl⟩ := he
  simp only [List.length_map, List.length_range] at hh
  obtain ⟨h1, b, off, h2, h3, h4⟩ := hh
  refine ⟨h1, b, off, h2, h3, fun i hi => ?_⟩
  rw [h4 i hi]
  simp [hi]
/-- a table so far: i rows of nt numbers each -/
structure TabO (w wr : World) (nt i : Nat) (f : Nat → Nat → Int) (v : Value) (rs : List Value) : Prop where
  own : wr.ownsRow w.heap.size 25 1 v i rs
  rows : ∀ j, j < i → ∃ A cap, rs[j]? = some (.slice A nt cap) ∧ wr.ownsRow w.heap.size 3 1 (.slice A nt cap) nt (rowL nt (f j))
  bel : Below w.heap.size w wr
section
variable {w wr wr' w1 : World} {nt i : Nat} {f : Nat → Nat → Int} {v v' : Value} {rs : List Value}
theorem TabO.nil (hb : Below w.heap.size w wr) : TabO w wr nt 0 f (.slice none 0 0) [] := ⟨World.ownsRow_nil _ _ _ _, fun j hj => by omega, hb⟩
theorem TabO.len (h : TabO w wr nt i f v rs) : rs.length = i := by have := h.own.1; omega
theorem TabO.next (h : TabO w wr nt i f v rs) (hb : Below wr.heap.size wr wr') : TabO w wr' nt i f v rs :=
  ⟨own_bel h.own hb, fun j hj => by obtain ⟨A, cap, h1, h2⟩ := h.rows j hj; exact ⟨A, cap, h1, own_bel h2 hb⟩, btr h.bel hb h.bel.size⟩
theorem TabO.push {o : Obj} {A : Option Addr} {cap : Nat} (h : TabO w wr nt i f v rs) (hr : wr.ownsRow w.heap.size 3 1 (.slice A nt cap) nt (rowL nt (f i)))
    (hown' : w1.ownsRow w.heap.size 25 1 v' (i + 1) (rs ++ [.slice A nt cap])) (hgrow : (wr.alloc o).grownBy w1 v.ownBlock) : TabO w w1 nt (i + 1) f v' (rs ++ [.slice A nt cap]) := by
  have hl := h.len
  have keep : ∀ {A2 : Option Addr} {cap2 : Nat} {xs : List Value}, wr.ownsRow w.heap.size 3 1 (.slice A2 nt cap2) nt xs → w1.ownsRow w.heap.size 3 1 (.slice A2 nt cap2) nt xs := by
    intro A2 cap2 xs hx
    refine (hx.alloc o).kept hgrow ?_
    rcases own_apart (hx.alloc o) (h.own.alloc o) (by decide) with h1 | h1
    · exact .inl (by rw [h1]; rfl)
    · exact .inr h1
  refine ⟨hown', fun j hj => ?_, own_below (h.own.alloc o) hgrow (h.bel.alloc h.bel.size o) (Nat.le_refl _) (by have := h.bel.size; simp; omega)⟩
  by_cases e : j = i
  · subst e
    exact ⟨A, cap, by rw [List.getElem?_append_right (by omega), hl]; simp, keep hr⟩
  · obtain ⟨A2, cap2, h1, h2⟩ := h.rows j (by omega)
    exact ⟨A2, cap2, by rw [List.getElem?_append_left (by omega)]; exact h1, keep h2⟩
theorem TabO.at_ {A : Option Addr} {cap : Nat} (h : TabO w wr nt i f (.slice A i cap) rs) (hi : i ≤ 1000000) (hn : nt ≤ 1000000) : TabAt wr A i (fun _ => nt) f := by
  have hl := h.len
  have hi' : i ≤ 9223372036854775807 := by omega
  have hn' : nt ≤ 9223372036854775807 := by omega
  rcases h.own.2 with ⟨he, h0⟩ | ⟨g, cap', cur, he, hb, hg, hc⟩
  · exact ⟨hi', 0, 0, fun h => by omega, fun h => by omega, fun j hj => by omega⟩
  · simp only [Value.slice.injEq] at he
    obtain ⟨rfl, _, rfl⟩ := he
    have hlt : g < wr.heap.size := (Array.getElem?_eq_some_iff.1 hg).1
    refine ⟨hi', g, 0, fun _ => hlt, fun _ => rfl, fun j hj => ?_⟩
    obtain ⟨A2, cap2, h1, h2⟩ := h.rows j hj
    refine ⟨A2, cap2, ?_, hours_own h2 hn'⟩
    have h3 := h.own.cells (g := g) rfl j _ h1
    have e : (⟨g, 0, none⟩ : Addr).add j = ⟨g, 0 + j, none⟩ := by
      unfold Addr.add
      split
      · rename_i h0; subst h0; rfl
      · rfl
    rw [e] at h3
    exact h3
end

set_option maxHeartbeats 2000000 in
/-- skimmerref09.SameTables, at two that are the same -/
theorem tables_any (A C : Option Addr) (n ca cb : Nat) (mf mg : Nat → Nat) (f g : Nat → Nat → Int) (w : World) (ha : TabAt w A n mf f) (hb : TabAt w C n mg g) (hm : ∀ i, i < n → mf i = mg i ∧ ∀ k, k < mf i → f i k = g i k) :
    Calls Tryd.prog 42 #[.slice A n ca, .slice C n cb] w fun e w' => e = .returned (.bool true) ∧ Below w.heap.size w w' := by
  obtain ⟨hn, b1, o1, hlt1, hA1, hc1⟩ := ha
  obtain ⟨_, b2, o2, hlt2, hA2, hc2⟩ := hb
  have HC1 := hid hc1
  have HC2 := hid hc2
  have HM := hid hm
  clear hc1 hc2 hm
  go_enter Tryd.func42, Tryd.ntmps42
  go_wp2_with fail
  go_loopw [13] (fun i wr => ∃ k : Nat, k ≤ n ∧ i = .int .i64 k ∧ Hid (Below w.heap.size w wr)) (fun i _ => n - (intOf i).toNat)
  case atStart => exact ⟨0, by omega, rfl, hid (Below.refl _ _)⟩
  case round =>
    obtain ⟨k, hk, rfl, HB⟩ := hrel
    by_cases hlt : k < n
    · obtain rfl := hA1 (by omega)
      obtain rfl := hA2 (by omega)
      obtain ⟨Ai, ci, h1, hh1⟩ := HC1.out k hlt
      obtain ⟨Bi, di, h2, hh2⟩ := HC2.out k hlt
      have x1 := (HB.out.cell (p := ⟨b1, o1 + k, none⟩) (hlt1 (by omega))).trans h1
      have x2 := (HB.out.cell (p := ⟨b2, o2 + k, none⟩) (hlt2 (by omega))).trans h2
      have l1 : b1 < wr.heap.size := Nat.lt_of_lt_of_le (hlt1 (by omega)) HB.out.size
      have l2 : b2 < wr.heap.size := Nat.lt_of_lt_of_le (hlt2 (by omega)) HB.out.size
      have g1 := Later.cells (B := wr.heap.size) (w := wr) x1 l1
      have g2 := Later.cells (B := wr.heap.size) (w := wr) x2 l2
      have hs : sameB (mf k) (mg k) (f k) (g k) = true := by
        obtain ⟨e1, e2⟩ := HM.out k hlt
        rw [← e1]
        exact sameB_ok e2
      have A1 := hid fun x : Later wr.heap.size wr => Calls.later_of (v := .bool true) (x := x) (Nat.le_refl _) (by
        have h := same_any Ai Bi (mf k) (mg k) ci di (f k) (g k) x.up ((hh1.below HB.out).below x.bel) ((hh2.below HB.out).below x.bel)
        rw [hs] at h
        exact h)
      clear hs h1 h2 hh1 hh2 x1 x2
      go_wp2_with fail
      refine wp_region_later wr.heap.size (by kernel_rfl) (by kernel_rfl) ?_
      repeat (go_big_quiet_step ((go_at_call 37; exact A1.out _)))
      refine wpQuiet_nil ?_
      rintro _ ⟨⟨w3, hb3⟩, rfl⟩
      clear g1 g2 A1
      go_wp2
      go_roundw
      case rel => exact ⟨k + 1, by omega, by go_num, hid (btr HB.out hb3 HB.out.size)⟩
      case measure => simp [intOf]; omega
    · obtain rfl : k = n := by omega
      go_wp2
      go_ret
      exact ⟨rfl, HB.out⟩
end Go.Proofs.YtmhlgnhfbickdaaDoor
