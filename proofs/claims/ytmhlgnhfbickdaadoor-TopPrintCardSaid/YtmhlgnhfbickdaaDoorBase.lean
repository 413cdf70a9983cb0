/-
  Small lemmas that all the texts of this seat use: endings, worlds that are later, blocks, slices that the call owns. Conditions: none.
-/
import Derived.Test.YtmhlgnhfbickdaaDoorProg
import Derived.WalkKit
import Derived.WalkSpells
import Derived.BigQuiet
import Derived.Deep.QuietTactic
import Derived.Laws.MakeOwn
import Derived.RangeFuncBox
namespace Go.Proofs.YtmhlgnhfbickdaaDoor
set_option linter.unusedVariables false
set_option linter.unusedSimpArgs false
open Go.RowKit

theorem ret_int {k : IntKind} {a b : Int} (h : a = b) : Ending.returned (.int k a) = .returned (.int k b) := by rw [h]
theorem ret_bool {a b : Bool} (h : a = b) : Ending.returned (.bool a) = .returned (.bool b) := by rw [h]
theorem hid {p : Prop} (h : p) : Hid p := h
theorem bdn {B : Nat} {a w : World} (h : Below B a w) (n : Nat) : Below B a (w.drewN n) := h.trans ⟨rfl, rfl, rfl, Nat.le_refl _, fun _ _ => rfl⟩
theorem bdr {B : Nat} (w : World) (n : Nat) : Below B w (w.drewN n) := bdn (Below.refl _ _) n
theorem btr {B : Nat} {a w w1 : World} (h : Below B a w) (h1 : Below w.heap.size w w1) (hB : B ≤ w.heap.size) : Below B a w1 := h.trans (h1.mono hB)
/-- every old cell reads as before -/
theorem bcell {B : Nat} {W w1 : World} (hb : Below B W w1) : (∀ b o, b < B → w1.cell? ⟨b, o, none⟩ = W.cell? ⟨b, o, none⟩) ∧ (∀ b o, b < B → w1.frozen? ⟨b, o, none⟩ = W.frozen? ⟨b, o, none⟩) :=
  ⟨fun b o h => hb.cell (p := ⟨b, o, none⟩) h, fun b o h => hb.frozen (p := ⟨b, o, none⟩) h⟩

/-- the first place that a test lets by, as the code tells it; whether there is one -/
def idxB (n : Nat) (f : Nat → Bool) : Int := match (List.range n).find? f with | some i => (i : Int) | none => -1
def anyB (n : Nat) (f : Nat → Bool) : Bool := (List.range n).any f
theorem anyB_true {n : Nat} {f : Nat → Bool} : anyB n f = true ↔ ∃ i, i < n ∧ f i = true := by simp [anyB]
theorem anyB_false {n : Nat} {f : Nat → Bool} : anyB n f = false ↔ ∀ i, i < n → f i = false := by simp [anyB]
theorem idxB_none {n : Nat} {f : Nat → Bool} (h : ∀ j, j < n → f j = false) : idxB n f = -1 := by
  unfold idxB
  rw [List.find?_eq_none.2 (by simpa using h)]
theorem idxB_some {n k : Nat} {f : Nat → Bool} (hk : k < n) (hf : f k = true) (h : ∀ j, j < k → f j = false) : idxB n f = k := by
  unfold idxB
  have : (List.range n).find? f = some k := by
    rw [List.find?_range_eq_some]
    exact ⟨hf, by simpa using hk, fun j hj => by simpa using h j hj⟩
  rw [this]
theorem idxB_any {n : Nat} {f : Nat → Bool} : decide (0 ≤ idxB n f) = anyB n f := by
  unfold idxB anyB
  cases h : (List.range n).find? f with
  | none =>
    have := List.find?_eq_none.1 h
    have h2 : (List.range n).any f = false := by
      rw [List.any_eq_false]; exact this
    rw [h2]; rfl
  | some i =>
    have h1 := List.find?_some h
    have h2 := List.mem_of_find?_eq_some h
    have h3 : (List.range n).any f = true := by rw [List.any_eq_true]; exact ⟨i, h2, h1⟩
    rw [h3]; simp

/-- A world behind some work that has left everything below B as it was. -/
structure Later (B : Nat) (w : World) where
  up : World
  bel : Below B w up
instance Later.inh {B : Nat} {w : World} : Nonempty (Later B w) := ⟨⟨w, Below.refl _ _⟩⟩
theorem Later.cells {B : Nat} {w : World} {b o : Nat} {v : Value} (h : w.cell? ⟨b, o, none⟩ = some v) (hb : b < B) : ∀ x : Later B w, x.up.cell? ⟨b, o, none⟩ = some v :=
  fun x => (x.bel.cell (p := ⟨b, o, none⟩) hb).trans h
theorem Calls.later_of {P : Program} {f : FuncId} {args : Array Value} {B : Nat} {w : World} {x : Later B w} {v : Value} (hB : B ≤ w.heap.size)
    (h : Calls P f args x.up fun e w' => e = .returned v ∧ Below x.up.heap.size x.up w') :
    Calls P f args x.up fun e w'' => e = .returned v ∧ ∃ y : Later B w, w'' = y.up :=
  h.mono fun _ w' ⟨he, hb⟩ => ⟨he, ⟨w', x.bel.trans (hb.mono (Nat.le_trans hB x.bel.size))⟩, rfl⟩
theorem wp_region_later {P : Program} {id : Nat} {Q : Exit → Act → World → Prop} {a : Act} {w : World} {l : List Oper} (B : Nat) (hm : P.follows .mixedOrders = true) (hB : Region.lexB .any l.toArray = true)
    (h : wpQuiet P l.toArray (fun w' => ∃ x : Later B w, w' = x.up) (fun a' => ∀ w', (∃ x : Later B w, w' = x.up) → Q .normal a' w') l a) : (Code.region id l.toArray true).wp P Q a w :=
  wp_region_quiet (C := fun w' => ∃ x : Later B w, w' = x.up) hm hB ⟨⟨_, bdr w 1⟩, rfl⟩ (by simpa using h)

def btw (a n b : Int) : Bool := decide (a ≤ n ∧ n ≤ b)
theorem btw_true {a n b : Int} (h1 : a ≤ n) (h2 : n ≤ b) : btw a n b = true := by simp [btw, h1, h2]
theorem btw_false {a n b : Int} (h : n < a ∨ b < n) : btw a n b = false := by simp [btw]; omega
theorem btw_iff {a n b : Int} : btw a n b = true ↔ a ≤ n ∧ n ≤ b := by simp [btw]
theorem btw_iff' {a n b : Int} : btw a n b = false ↔ ¬ (a ≤ n ∧ n ≤ b) := by simp [btw]

/-- print.between -/
theorem between_any (a n b : Int) (w : World) :
    Calls Tryd.prog 61 #[.int .i64 a, .int .i64 n, .int .i64 b] w fun e w' => e = .returned (.bool (btw a n b)) ∧ w = w' := by
  by_cases h1 : a ≤ n
  · by_cases h2 : n ≤ b
    · go_enter Tryd.func61, Tryd.ntmps61
      go_wp2
      go_ret
      exact ⟨by simp [btw_true h1 h2, h1, h2], rfl⟩
    · go_enter Tryd.func61, Tryd.ntmps61
      go_wp2
      go_ret
      exact ⟨by simp [btw_false (a := a) (n := n) (b := b) (by omega), h1, h2], rfl⟩
  · go_enter Tryd.func61, Tryd.ntmps61
    go_wp2
    go_ret
    exact ⟨by simp [btw_false (a := a) (n := n) (b := b) (by omega)], rfl⟩


/-- integers in memory, one cell each -/
def HoursAt (w : World) (A : Option Addr) (n : Nat) (h : Nat → Int) : Prop :=
  n ≤ 9223372036854775807 ∧ ∃ b off, (0 < n → b < w.heap.size) ∧ (0 < n → A = some ⟨b, off, none⟩) ∧ ∀ i, i < n → w.cell? ⟨b, off + i, none⟩ = some (.int .i64 (h i))
theorem HoursAt.below {w w' : World} {A : Option Addr} {n : Nat} {h : Nat → Int} (hh : HoursAt w A n h) (hb : Below w.heap.size w w') : HoursAt w' A n h := by
  obtain ⟨hn, b, off, hlt, hA, hc⟩ := hh
  exact ⟨hn, b, off, fun h => Nat.lt_of_lt_of_le (hlt h) hb.size, hA, fun i hi => (hb.cell (p := ⟨b, off + i, none⟩) (hlt (by omega))).trans (hc i hi)⟩
theorem HoursAt.drewN {w : World} {A : Option Addr} {n : Nat} {h : Nat → Int} (hh : HoursAt w A n h) (m : Nat) : HoursAt (w.drewN m) A n h := hh
theorem HoursAt.alloc {w : World} {A : Option Addr} {n : Nat} {h : Nat → Int} (hh : HoursAt w A n h) (o : Obj) : HoursAt (w.alloc o) A n h := hh.below ((Below.refl _ _).alloc (Nat.le_refl _) o)

/-- .. in a block from B on -/
def HoursGe (B : Nat) (w : World) (A : Option Addr) (n : Nat) (h : Nat → Int) : Prop :=
  n ≤ 9223372036854775807 ∧ ∃ b off, (0 < n → B ≤ b ∧ b < w.heap.size) ∧ (0 < n → A = some ⟨b, off, none⟩) ∧ ∀ i, i < n → w.cell? ⟨b, off + i, none⟩ = some (.int .i64 (h i))
theorem HoursGe.at_ {B : Nat} {w : World} {A : Option Addr} {n : Nat} {h : Nat → Int} (hh : HoursGe B w A n h) : HoursAt w A n h := by
  obtain ⟨hn, b, off, hlt, hA, hc⟩ := hh
  exact ⟨hn, b, off, fun h => (hlt h).2, hA, hc⟩
theorem HoursGe.below {B : Nat} {w w' : World} {A : Option Addr} {n : Nat} {h : Nat → Int} (hh : HoursGe B w A n h) (hb : Below w.heap.size w w') : HoursGe B w' A n h := by
  obtain ⟨hn, b, off, hlt, hA, hc⟩ := hh
  exact ⟨hn, b, off, fun h => ⟨(hlt h).1, Nat.lt_of_lt_of_le (hlt h).2 hb.size⟩, hA, fun i hi => (hb.cell (p := ⟨b, off + i, none⟩) (hlt (by omega)).2).trans (hc i hi)⟩
theorem HoursGe.mono {B B' : Nat} {w : World} {A : Option Addr} {n : Nat} {h : Nat → Int} (hh : HoursGe B w A n h) (hB : B' ≤ B) : HoursGe B' w A n h := by
  obtain ⟨hn, b, off, hlt, hA, hc⟩ := hh
  exact ⟨hn, b, off, fun h => ⟨Nat.le_trans hB (hlt h).1, (hlt h).2⟩, hA, hc⟩
theorem HoursGe.set_ {B : Nat} {w : World} {A : Option Addr} {n : Nat} {h : Nat → Int} (hh : HoursGe B w A n h) {a : Addr} (ha : a.block < B) (u : Value) : HoursGe B (w.setCell a u) A n h := by
  obtain ⟨hn, b, off, hlt, hA, hc⟩ := hh
  refine ⟨hn, b, off, fun h => ⟨(hlt h).1, by have := (hlt h).2; simpa [World.setCell] using this⟩, hA, fun i hi => ?_⟩
  rw [World.cell?_setCell_other w a ⟨b, off + i, none⟩ u (fun e => by have := (hlt (by omega)).1; subst e; simp at ha; omega)]
  exact hc i hi

/-- a block that is known whole -/
def Blk (w : World) (g : Nat) (t : TypeId) (cs : Array Value) : Prop := w.heap[g]? = some (.cells cs t (0, 0))
theorem Blk.lt {w : World} {g : Nat} {t : TypeId} {cs : Array Value} (h : Blk w g t cs) : g < w.heap.size := by
  rcases Nat.lt_or_ge g w.heap.size with hlt | hge
  · exact hlt
  · unfold Blk at h; rw [Array.getElem?_eq_none hge] at h; cases h
theorem Blk.cell {w : World} {g : Nat} {t : TypeId} {cs : Array Value} (h : Blk w g t cs) (i : Nat) : w.cell? ⟨g, i, none⟩ = cs[i]? := cell_of_row w g i cs t (0, 0) h
theorem Blk.frozen {w : World} {g : Nat} {t : TypeId} {cs : Array Value} (h : Blk w g t cs) (i : Nat) : w.frozen? ⟨g, i, none⟩ = false := by
  unfold Blk at h
  simp [World.frozen?, h]
theorem Blk.new (w : World) (t : TypeId) (cs : Array Value) : Blk (w.alloc (.cells cs t)) w.heap.size t cs := heap_alloc_new w _
theorem Blk.drewN {w : World} {g : Nat} {t : TypeId} {cs : Array Value} (h : Blk w g t cs) (n : Nat) : Blk (w.drewN n) g t cs := h
theorem Blk.alloc {w : World} {g : Nat} {t : TypeId} {cs : Array Value} (h : Blk w g t cs) (o : Obj) : Blk (w.alloc o) g t cs := (Below.heap_alloc w o g h.lt).trans h
theorem Blk.set_ {w : World} {g : Nat} {t : TypeId} {cs : Array Value} (h : Blk w g t cs) (i : Nat) (u : Value) : Blk (w.setCell ⟨g, i, none⟩ u) g t (cs.setIfInBounds i u) := by
  unfold Blk at h ⊢
  simp [World.setCell, Array.getElem?_modify, h]
theorem Blk.far {w : World} {g : Nat} {t : TypeId} {cs : Array Value} (h : Blk w g t cs) {p : Addr} (hp : g ≠ p.block) (u : Value) : Blk (w.setCell p u) g t cs := (Below.heap_setCell w p u g hp).trans h
theorem Blk.below {w w' : World} {g : Nat} {t : TypeId} {cs : Array Value} {B : Nat} (h : Blk w g t cs) (hb : Below B w w') (hg : g < B) : Blk w' g t cs := (hb.block g hg).trans h
theorem Blk.below' {w w' : World} {g : Nat} {t : TypeId} {cs : Array Value} (h : Blk w g t cs) (hb : Below w.heap.size w w') : Blk w' g t cs := h.below hb h.lt
theorem Blk.ne_ {w : World} {g g' : Nat} {t t' : TypeId} {cs cs' : Array Value} (h : Blk w g t cs) (h' : Blk w g' t' cs') (hne : t ≠ t') : g ≠ g' := by
  rintro rfl
  unfold Blk at h h'
  rw [h] at h'
  injection h' with h'
  injection h' with _ ht
  exact hne ht


theorem box_bel (w : World) (o : Obj) : Below w.heap.size w (w.alloc o) := (Below.refl _ _).alloc (Nat.le_refl _) o
theorem box_trans {w w' : World} (o : Obj) (h : Below (w.alloc o).heap.size (w.alloc o) w') : Below w.heap.size w w' := (box_bel w o).trans (h.mono (by simp))
theorem own_shape {w : World} {base : Nat} {e : TypeId} {size n : Nat} {v : Value} {xs : List Value} (h : w.ownsRow base e size v n xs) : ∃ A c, v = .slice A n c := by
  rcases h.2 with ⟨rfl, rfl⟩ | ⟨g, cap, cur, rfl, _⟩
  · exact ⟨none, 0, rfl⟩
  · exact ⟨_, _, rfl⟩
theorem own_far {w w' : World} {base e size n : Nat} {v : Value} {xs : List Value} {g : Nat} {t : TypeId} {cs : Array Value} (h : w.ownsRow base e size v n xs) (hg : w.grownBy w' v.ownBlock) (hb : Blk w g t cs) (hlt : g < base) : Blk w' g t cs := by
  refine (hg.block g hb.lt ?_).trans hb
  rcases h.2 with ⟨rfl, _⟩ | ⟨g', cap, cur, rfl, hb', _⟩
  · simp [Value.ownBlock]
  · simp [Value.ownBlock]; omega
theorem own_below {w w' w0 : World} {base B e size n : Nat} {v : Value} {xs : List Value} (h : w.ownsRow base e size v n xs) (hg : w.grownBy w' v.ownBlock) (hb : Below B w0 w) (hB : B ≤ base) (hs : B ≤ w.heap.size) : Below B w0 w' := by
  refine hb.grown hg hs fun k hk => ?_
  rcases h.2 with ⟨rfl, _⟩ | ⟨g', cap, cur, rfl, hb', _⟩
  · simp [Value.ownBlock] at hk
  · simp [Value.ownBlock] at hk; omega
theorem own_set {w : World} {base e size n : Nat} {v : Value} {xs : List Value} (h : w.ownsRow base e size v n xs) {a : Addr} (ha : a.block < base) (u : Value) : (w.setCell a u).ownsRow base e size v n xs := ownsRow_setCell_below h ha u


theorem grown_of {w w' : World} (hb : Below w.heap.size w w') : w.grownBy w' none := ⟨hb.os, hb.tape, hb.output, hb.size, fun k hk _ => hb.block k hk⟩
theorem own_bel {w w' : World} {base e size n : Nat} {v : Value} {xs : List Value} (h : w.ownsRow base e size v n xs) (hb : Below w.heap.size w w') : w'.ownsRow base e size v n xs :=
  h.kept (grown_of hb) (by cases v.ownBlock <;> simp)
theorem own_type {w w' : World} {base e size n : Nat} {v : Value} {xs : List Value} {g t : Nat} {cs : Array Value} (h : w.ownsRow base e size v n xs) (hg : w.grownBy w' v.ownBlock) (hb : Blk w g t cs) (hne : t ≠ e) : Blk w' g t cs := by
  refine (hg.block g hb.lt ?_).trans hb
  rcases h.2 with ⟨rfl, _⟩ | ⟨g', cap, cur, rfl, _, hh, _⟩
  · simp [Value.ownBlock]
  · simp [Value.ownBlock]
    rintro rfl
    unfold Blk at hb
    rw [hb] at hh
    injection hh with hh
    injection hh with _ ht
    exact hne ht


end Go.Proofs.YtmhlgnhfbickdaaDoor
