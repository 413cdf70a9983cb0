/-
  Windows in memory: hours that came in, rows of bools that the call itself makes. Conditions: none.
-/
import Derived.Test.YtfabpkcgdblnbaaBase
import Derived.Laws.MakeOwn
namespace Go.Proofs.Ytfabpkcgdblnbaa
set_option linter.unusedVariables false
set_option linter.unusedSimpArgs false
open Go.RowKit

/-- integers in memory, one cell each -/
def HoursAt (w : World) (A : Option Addr) (n : Nat) (h : Nat → Int) : Prop :=
  n ≤ 9223372036854775807 ∧ ∃ b off, (0 < n → b < w.heap.size) ∧ (0 < n → A = some ⟨b, off, none⟩) ∧ ∀ i, i < n → w.cell? ⟨b, off + i, none⟩ = some (.int .i64 (h i))
theorem HoursAt.below {w w' : World} {A : Option Addr} {n : Nat} {h : Nat → Int} (hh : HoursAt w A n h) (hb : Below w.heap.size w w') : HoursAt w' A n h := by
  obtain ⟨hn, b, off, hlt, hA, hc⟩ := hh
  exact ⟨hn, b, off, fun h => Nat.lt_of_lt_of_le (hlt h) hb.size, hA, fun i hi => (hb.cell (p := ⟨b, off + i, none⟩) (hlt (by omega))).trans (hc i hi)⟩
theorem HoursAt.drewN {w : World} {A : Option Addr} {n : Nat} {h : Nat → Int} (hh : HoursAt w A n h) (m : Nat) : HoursAt (w.drewN m) A n h := hh
theorem HoursAt.alloc {w : World} {A : Option Addr} {n : Nat} {h : Nat → Int} (hh : HoursAt w A n h) (o : Obj) : HoursAt (w.alloc o) A n h := hh.below ((Below.refl _ _).alloc (Nat.le_refl _) o)

/-- .. in a block from B on -/
def HoursGe (B : Nat) (w : World) (A : Option Addr) (n : Nat) (h : Nat → Int) : Prop :=
  n ≤ 9223372036854775807 ∧ ∃ b off, (0 < n → B ≤ b ∧ b < w.heap.size) ∧ (0 < n → A = some ⟨b, off, none⟩) ∧ ∀ i, i < n → w.cell? ⟨b, off + i, none⟩ = some (.int .i64 (h i))
theorem HoursGe.at_ {B : Nat} {w : World} {A : Option Addr} {n : Nat} {h : Nat → Int} (hh : HoursGe B w A n h) : HoursAt w A n h := by
  obtain ⟨hn, b, off, hlt, hA, hc⟩ := hh
  exact ⟨hn, b, off, fun h => (hlt h).2, hA, hc⟩
theorem HoursGe.below {B : Nat} {w w' : World} {A : Option Addr} {n : Nat} {h : Nat → Int} (hh : HoursGe B w A n h) (hb : Below w.heap.size w w') : HoursGe B w' A n h := by
  obtain ⟨hn, b, off, hlt, hA, hc⟩ := hh
  exact ⟨hn, b, off, fun h => ⟨(hlt h).1, Nat.lt_of_lt_of_le (hlt h).2 hb.size⟩, hA, fun i hi => (hb.cell (p := ⟨b, off + i, none⟩) (hlt (by omega)).2).trans (hc i hi)⟩
theorem HoursGe.mono {B B' : Nat} {w : World} {A : Option Addr} {n : Nat} {h : Nat → Int} (hh : HoursGe B w A n h) (hB : B' ≤ B) : HoursGe B' w A n h := by
  obtain ⟨hn, b, off, hlt, hA, hc⟩ := hh
  exact ⟨hn, b, off, fun h => ⟨Nat.le_trans hB (hlt h).1, (hlt h).2⟩, hA, hc⟩
theorem HoursGe.set_ {B : Nat} {w : World} {A : Option Addr} {n : Nat} {h : Nat → Int} (hh : HoursGe B w A n h) {a : Addr} (ha : a.block < B) (u : Value) : HoursGe B (w.setCell a u) A n h := by
  obtain ⟨hn, b, off, hlt, hA, hc⟩ := hh
  refine ⟨hn, b, off, fun h => ⟨(hlt h).1, by have := (hlt h).2; simpa [World.setCell] using this⟩, hA, fun i hi => ?_⟩
  rw [World.cell?_setCell_other w a ⟨b, off + i, none⟩ u (fun e => by have := (hlt (by omega)).1; subst e; simp at ha; omega)]
  exact hc i hi

/-- bools in memory -/
def BoolsAt (w : World) (b off n : Nat) (f : Nat → Bool) : Prop := b < w.heap.size ∧ ∀ i, i < n → w.cell? ⟨b, off + i, none⟩ = some (.bool (f i))
theorem BoolsAt.below {w w' : World} {b off n : Nat} {f : Nat → Bool} (hh : BoolsAt w b off n f) (hb : Below w.heap.size w w') : BoolsAt w' b off n f :=
  ⟨Nat.lt_of_lt_of_le hh.1 hb.size, fun i hi => (hb.cell (p := ⟨b, off + i, none⟩) hh.1).trans (hh.2 i hi)⟩
theorem BoolsAt.drewN {w : World} {b off n : Nat} {f : Nat → Bool} (hh : BoolsAt w b off n f) (m : Nat) : BoolsAt (w.drewN m) b off n f := hh
theorem BoolsAt.alloc {w : World} {b off n : Nat} {f : Nat → Bool} (hh : BoolsAt w b off n f) (o : Obj) : BoolsAt (w.alloc o) b off n f := hh.below ((Below.refl _ _).alloc (Nat.le_refl _) o)

theorem BoolsAt.belowB {B : Nat} {w w' : World} {b off n : Nat} {f : Nat → Bool} (hh : BoolsAt w b off n f) (hb : Below B w w') (hB : b < B) : BoolsAt w' b off n f :=
  ⟨Nat.lt_of_lt_of_le hh.1 hb.size, fun i hi => (hb.cell (p := ⟨b, off + i, none⟩) hB).trans (hh.2 i hi)⟩
/-- a block that is known whole -/
def Blk (w : World) (g : Nat) (t : TypeId) (cs : Array Value) : Prop := w.heap[g]? = some (.cells cs t (0, 0))
theorem Blk.lt {w : World} {g : Nat} {t : TypeId} {cs : Array Value} (h : Blk w g t cs) : g < w.heap.size := by
  rcases Nat.lt_or_ge g w.heap.size with hlt | hge
  · exact hlt
  · unfold Blk at h; rw [Array.getElem?_eq_none hge] at h; cases h
theorem Blk.cell {w : World} {g : Nat} {t : TypeId} {cs : Array Value} (h : Blk w g t cs) (i : Nat) : w.cell? ⟨g, i, none⟩ = cs[i]? := cell_of_row w g i cs t (0, 0) h
theorem Blk.frozen {w : World} {g : Nat} {t : TypeId} {cs : Array Value} (h : Blk w g t cs) (i : Nat) : w.frozen? ⟨g, i, none⟩ = false := by
  unfold Blk at h
  simp [World.frozen?, h]
theorem Blk.new (w : World) (t : TypeId) (cs : Array Value) : Blk (w.alloc (.cells cs t)) w.heap.size t cs := heap_alloc_new w _
theorem Blk.drewN {w : World} {g : Nat} {t : TypeId} {cs : Array Value} (h : Blk w g t cs) (n : Nat) : Blk (w.drewN n) g t cs := h
theorem Blk.alloc {w : World} {g : Nat} {t : TypeId} {cs : Array Value} (h : Blk w g t cs) (o : Obj) : Blk (w.alloc o) g t cs := (Below.heap_alloc w o g h.lt).trans h
theorem Blk.set_ {w : World} {g : Nat} {t : TypeId} {cs : Array Value} (h : Blk w g t cs) (i : Nat) (u : Value) : Blk (w.setCell ⟨g, i, none⟩ u) g t (cs.setIfInBounds i u) := by
  unfold Blk at h ⊢
  simp [World.setCell, Array.getElem?_modify, h]
theorem Blk.far {w : World} {g : Nat} {t : TypeId} {cs : Array Value} (h : Blk w g t cs) {p : Addr} (hp : g ≠ p.block) (u : Value) : Blk (w.setCell p u) g t cs := (Below.heap_setCell w p u g hp).trans h
theorem Blk.below {w w' : World} {g : Nat} {t : TypeId} {cs : Array Value} {B : Nat} (h : Blk w g t cs) (hb : Below B w w') (hg : g < B) : Blk w' g t cs := (hb.block g hg).trans h
theorem Blk.below' {w w' : World} {g : Nat} {t : TypeId} {cs : Array Value} (h : Blk w g t cs) (hb : Below w.heap.size w w') : Blk w' g t cs := h.below hb h.lt
theorem Blk.ne_ {w : World} {g g' : Nat} {t t' : TypeId} {cs cs' : Array Value} (h : Blk w g t cs) (h' : Blk w g' t' cs') (hne : t ≠ t') : g ≠ g' := by
  rintro rfl
  unfold Blk at h h'
  rw [h] at h'
  injection h' with h'
  injection h' with _ ht
  exact hne ht

/-- a table of bools as an array -/
def tabA (p : Nat) (f : Nat → Bool) : Array Value := ((List.range p).map fun j => Value.bool (f j)).toArray
theorem tabA_size (p : Nat) (f : Nat → Bool) : (tabA p f).size = p := by simp [tabA]
theorem tabA_get {p j : Nat} (f : Nat → Bool) (h : j < p) : (tabA p f)[j]? = some (.bool (f j)) := by simp [tabA, h]
theorem tabA_set {p j : Nat} (f : Nat → Bool) (b : Bool) : (tabA p f).setIfInBounds j (.bool b) = tabA p (fun i => if i = j then b else f i) := by
  apply Array.ext_getElem?
  intro i
  rw [Array.getElem?_setIfInBounds]
  by_cases hi : i < p
  · rw [tabA_get _ hi, tabA_get _ hi, tabA_size]
    by_cases e : j = i
    · subst e; simp [hi]
    · have : ¬ i = j := fun h => e h.symm
      simp [e, this]
  · have h1 : ∀ g, (tabA p g)[i]? = none := fun g => Array.getElem?_eq_none (by rw [tabA_size]; omega)
    rw [h1, h1, tabA_size]
    by_cases e : j = i
    · subst e; simp [hi]
    · simp [e]
theorem tabA_congr {p : Nat} {f g : Nat → Bool} (h : ∀ j, j < p → f j = g j) : tabA p f = tabA p g := by
  unfold tabA
  congr 1
  exact List.map_congr_left fun j hj => by rw [h j (by simpa using hj)]
theorem BoolsAt.of_blk {w : World} {g p : Nat} {t : TypeId} {f : Nat → Bool} (h : Blk w g t (tabA p f)) : BoolsAt w g 0 p f :=
  ⟨h.lt, fun i hi => by rw [Nat.zero_add, h.cell, tabA_get f hi]⟩

theorem info4 : (Try.prog.info? 4).map (fun i => (i.zero, i.size, i.bytes)) = some (some (.bool false), 1, 1) := by kernel_rfl
theorem run_mkb (t : TypeId) (ht : Try.prog.underlying t = some (.slice 4)) (p : Nat) (hp : p ≤ 1000000) (w : World) :
    (Instr.makeSlice t (.int .i64 (p : Int)) (.int .i64 (p : Int))).run Try.prog w = .ok (.slice (some ⟨w.heap.size, 0, none⟩) p p) (w.alloc (.cells (tabA p fun _ => false) 4)) := by
  obtain ⟨i, hi, hz, hs, hb⟩ := info_parts info4
  have h := run_make (P := Try.prog) (w := w) t 4 i (.bool false) ht hi hz .i64 .i64 p p (by omega) (by omega) (by rw [hb]; omega) (by omega)
  rw [h]
  have e : madeCells (Value.bool false).cells ((p : Int).toNat * i.size) = tabA p fun _ => false := by
    rw [hs, Int.toNat_natCast, Nat.mul_one]
    apply Array.ext_getElem?
    intro j
    by_cases hj : j < p
    · rw [tabA_get _ hj]; simp [madeCells, hj, Value.cells, Nat.mod_one]
    · rw [Array.getElem?_eq_none (by rw [size_madeCells]; omega), Array.getElem?_eq_none (by rw [tabA_size]; omega)]
  rw [e, Int.toNat_natCast]

/-! ### what a window is -/
def badH (P : Int) (h : Nat → Int) (i : Nat) : Bool := !btw 0 (h i) (P - 1) || (decide (0 < i) && decide (h i ≤ h (i - 1)))
def winB (P : Int) (n : Nat) (h : Nat → Int) (most : Int) : Bool := btw 1 P most && !anyB n (badH P h)
theorem badH_false {P : Int} {h : Nat → Int} {i : Nat} : badH P h i = false ↔ (0 ≤ h i ∧ h i < P) ∧ (0 < i → h (i - 1) < h i) := by
  simp only [badH, Bool.or_eq_false_iff, Bool.not_eq_false', btw_iff, Bool.and_eq_false_iff, decide_eq_false_iff_not]
  omega
theorem winB_true {P : Int} {n : Nat} {h : Nat → Int} {most : Int} : winB P n h most = true ↔ (1 ≤ P ∧ P ≤ most) ∧ ∀ i, i < n → (0 ≤ h i ∧ h i < P) ∧ (0 < i → h (i - 1) < h i) := by
  unfold winB
  rw [Bool.and_eq_true, btw_iff, Bool.not_eq_true', anyB_false]
  exact and_congr_right fun _ => forall_congr' fun i => imp_congr_right fun _ => badH_false
theorem winB_mk {P : Int} {n : Nat} {h : Nat → Int} {most : Int} (h1 : 1 ≤ P) (h2 : P ≤ most) (h3 : ∀ i, i < n → badH P h i = false) : winB P n h most = true := by
  unfold winB; rw [btw_true h1 h2, anyB_false.2 h3]; rfl
theorem winB_no {P : Int} {n : Nat} {h : Nat → Int} {most : Int} (h1 : ¬ (1 ≤ P ∧ P ≤ most)) : winB P n h most = false := by
  unfold winB; rw [btw_iff'.2 h1]; rfl
theorem winB_bad {P : Int} {n i : Nat} {h : Nat → Int} {most : Int} (hi : i < n) (h1 : badH P h i = true) : winB P n h most = false := by
  unfold winB; rw [anyB_true.2 ⟨i, hi, h1⟩]; simp
/-- whether it is open at hour j of its period -/
def opn (n : Nat) (h : Nat → Int) (j : Nat) : Bool := anyB n fun i => h i == (j : Int)
theorem opn_succ (n : Nat) (h : Nat → Int) (j : Nat) : opn (n + 1) h j = (opn n h j || h n == (j : Int)) := by
  unfold opn anyB
  rw [List.range_succ, List.any_append]; simp
end Go.Proofs.Ytfabpkcgdblnbaa
