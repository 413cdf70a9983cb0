/-
  The law WindowOpens: it returns true, whatever the input. Conditions: the hours lie in memory.
-/
import Derived.Test.YtfabpkcgdblnbaaW4
import Derived.Test.YtfabpkcgdblnbaaR6
namespace Go.Proofs.Ytfabpkcgdblnbaa
set_option linter.unusedVariables false
set_option linter.unusedSimpArgs false
open Go.RowKit

/-- what a law keeps of a window that came in: its hours, and the box that the call has laid for it -/
structure KW (w0 w : World) (g : Nat) (P : Int) (A : Option Addr) (n c : Nat) (h : Nat → Int) : Prop where
  bel : Below w0.heap.size w0 w
  hrs : HoursAt w A n h
  lt : g < w.heap.size
  c0 : w.cell? ⟨g, 0, none⟩ = some (.int .i64 P)
  c1 : w.cell? ⟨g, 1, none⟩ = some (.slice A n c)
theorem KW.new {w : World} {P : Int} {A : Option Addr} {n c : Nat} {h : Nat → Int} (hh : HoursAt w A n h) : KW w (w.alloc (.cells #[.int .i64 P, .slice A n c] 40)) w.heap.size P A n c h :=
  ⟨box_bel _ _, hh.alloc _, by simp, World.cell?_alloc_new w #[.int .i64 P, .slice A n c] 40 0, World.cell?_alloc_new w #[.int .i64 P, .slice A n c] 40 1⟩
theorem KW.next {w0 w w' : World} {g : Nat} {P : Int} {A : Option Addr} {n c : Nat} {h : Nat → Int} (k : KW w0 w g P A n c h) (hb : Below w.heap.size w w') : KW w0 w' g P A n c h :=
  ⟨btr k.bel hb k.bel.size, k.hrs.below hb, Nat.lt_of_lt_of_le k.lt hb.size, (hb.cell (p := ⟨g, 0, none⟩) k.lt).trans k.c0, (hb.cell (p := ⟨g, 1, none⟩) k.lt).trans k.c1⟩
theorem KW.alloc {w0 w : World} {g : Nat} {P : Int} {A : Option Addr} {n c : Nat} {h : Nat → Int} (k : KW w0 w g P A n c h) (o : Obj) : KW w0 (w.alloc o) g P A n c h := k.next (box_bel _ _)

theorem opens_law_long (P : Int) (A : Option Addr) (n c : Nat) (x : Int) (w : World) (hl : (4000 : Int) < n) :
    Calls Try.prog 9 #[.agg #[.int .i64 P, .slice A n c], .int .i64 x] w fun e w' => e = .returned (.bool true) ∧ Below w.heap.size w w' := by
  go_enter Try.func9, Try.ntmps9
  go_wp2_with (first
    | (go_at_call 30; refine (lWide_any _ _ _ _ _).mono ?_; rintro e w1 ⟨rfl, hb1⟩)
    | (go_at_call 19; refine (awake_any _).mono ?_; rintro e w2 ⟨rfl, hb2⟩))
  go_ret
  exact ⟨rfl, box2 _ hb1 hb2⟩
set_option maxHeartbeats 1000000 in
theorem opens_law_short (P : Int) (A : Option Addr) (n c : Nat) (h : Nat → Int) (x : Int) (w : World) (hh : HoursAt w A n h) (hl : ¬ (4000 : Int) < n) :
    Calls Try.prog 9 #[.agg #[.int .i64 P, .slice A n c], .int .i64 x] w fun e w' => e = .returned (.bool true) ∧ Below w.heap.size w w' := by
  have K := KW.new (P := P) (c := c) hh
  have hk0 := K.c0
  have hk1 := K.c1
  clear hh
  go_enter Try.func9, Try.ntmps9
  go_wp2_with (first
    | (go_at_call 30; refine (lWide_any _ _ _ _ _).mono ?_; rintro e w1 ⟨rfl, hb⟩; have K1 := K.next hb; clear hb hk0 hk1; have hk0 := K1.c0; have hk1 := K1.c1)
    | (go_at_call 43; refine (wOpen_any _ _ _ _ _ _ _ K1.hrs).mono ?_; rintro e w2 ⟨rfl, hb⟩; have K2 := K1.next hb; clear hb hk0 hk1; have hk0 := K2.c0; have hk1 := K2.c1)
    | (go_at_call 44; refine (rOpen_any _ _ _ _ _ _ _ K2.hrs).mono ?_; rintro e w3 ⟨rfl, hb⟩; have K3 := K2.next hb; clear hb hk0 hk1; have hk0 := K3.c0; have hk1 := K3.c1)
    | (go_at_call 36; refine (wNext_any _ _ _ _ _ _ _ K3.hrs).mono ?_; rintro e w4 ⟨rfl, hb⟩; have K4 := K3.next hb; clear hb hk0 hk1; have hk0 := K4.c0; have hk1 := K4.c1)
    | (go_at_call 45; refine (rNext_any _ _ _ _ _ _ _ K4.hrs).mono ?_; rintro e w5 ⟨rfl, hb⟩; have K5 := K4.next hb; clear hb hk0 hk1))
  have hc1 := Later.cells (B := w5.heap.size) (w := w5) K5.c0 K5.lt
  have hc2 := Later.cells (B := w5.heap.size) (w := w5) K5.c1 K5.lt
  have HQ := hid fun z : Later w5.heap.size w5 => Calls.later_of (x := z) (Nat.le_refl _) (valid_any P A n c h z.up (K5.hrs.below z.bel))
  have HR := hid fun z : Later w5.heap.size w5 => Calls.later_of (x := z) (Nat.le_refl _) (rValid_any P A n c h z.up (K5.hrs.below z.bel))
  refine wp_region_later w5.heap.size (by kernel_rfl) (by kernel_rfl) ?_
  repeat (go_big_quiet_step ((first | (go_at_call 46; exact HQ.out _) | (go_at_call 47; exact HR.out _))))
  refine wpQuiet_nil ?_
  rintro _ ⟨⟨w6, hb6⟩, rfl⟩
  clear hc1 hc2
  have K6 := K5.next hb6
  have hk0 := K6.c0
  have hk1 := K6.c1
  go_wp2_with (first
    | (go_at_call 48; refine (wPart_any _ _ _ _ _ _ K6.hrs).mono ?_; rintro e w7 ⟨rfl, hb⟩; have K7 := K6.next hb; have K7' := fun o => K7.alloc o; have hk0 := K7.c0; have hk1 := K7.c1; have hlt7 := K7.lt)
    | (go_at_call 49; refine (rPart_any _ _ _ _ _ _ (K7.alloc _).hrs).mono ?_; rintro e w8 ⟨rfl, hb8⟩; have hm0 := (hb8.cell (p := ⟨w7.heap.size, 0, none⟩) (by simp)).trans (World.cell?_alloc_new w7 #[.int .i64 (partOf P n h).1, .int .i64 (partOf P n h).2.1] 54 0); have hm1 := (hb8.cell (p := ⟨w7.heap.size, 1, none⟩) (by simp)).trans (World.cell?_alloc_new w7 #[.int .i64 (partOf P n h).1, .int .i64 (partOf P n h).2.1] 54 1); have hlt8 : w7.heap.size < w8.heap.size := (by have := hb8.size; simp at this; omega))
    | (go_at_call 19; refine (awake_any _).mono ?_; rintro e w9 ⟨rfl, hb9⟩))
  go_ret
  exact ⟨rfl, btr ((((K7.alloc _).next hb8).alloc _).bel) hb9 (by simp; have := ((K7.alloc _).next hb8).bel.size; omega)⟩

theorem windowOpens_walk (P : Int) (A : Option Addr) (n c : Nat) (h : Nat → Int) (x : Int) (w : World) (hh : HoursAt w A n h) (hx : (Lit.int .i64 x).wf = true) :
    Calls Try.prog 9 #[.agg #[.int .i64 P, .slice A n c], .int .i64 x] w fun e w' => e = .returned (.bool true) ∧ Below w.heap.size w w' := by
  by_cases hl : (4000 : Int) < n
  · exact opens_law_long P A n c x w hl
  · exact opens_law_short P A n c h x w hh hl
end Go.Proofs.Ytfabpkcgdblnbaa
