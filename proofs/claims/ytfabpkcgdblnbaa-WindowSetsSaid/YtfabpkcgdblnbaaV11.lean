/-
  joined, least, Both and Either of the reference; the law WindowPairs. Conditions: the hours lie in memory.
-/
import Derived.Test.YtfabpkcgdblnbaaV10
namespace Go.Proofs.Ytfabpkcgdblnbaa
set_option linter.unusedVariables false
set_option linter.unusedSimpArgs false
open Go.RowKit

/-- a table of numbers as an array -/
def tabI (p : Nat) (f : Nat → Int) : Array Value := ((List.range p).map fun j => Value.int .i64 (f j)).toArray
theorem tabI_size (p : Nat) (f : Nat → Int) : (tabI p f).size = p := by simp [tabI]
theorem tabI_get {p j : Nat} (f : Nat → Int) (h : j < p) : (tabI p f)[j]? = some (.int .i64 (f j)) := by simp [tabI, h]
theorem tabI_set {p j : Nat} (f : Nat → Int) (b : Int) : (tabI p f).setIfInBounds j (.int .i64 b) = tabI p (fun i => if i = j then b else f i) := by
  apply Array.ext_getElem?
  intro i
  rw [Array.getElem?_setIfInBounds]
  by_cases hi : i < p
  · rw [tabI_get _ hi, tabI_get _ hi, tabI_size]
    by_cases e : j = i
    · subst e; simp [hi]
    · have : ¬ i = j := fun h => e h.symm
      simp [e, this]
  · have h1 : ∀ g, (tabI p g)[i]? = none := fun g => Array.getElem?_eq_none (by rw [tabI_size]; omega)
    rw [h1, h1, tabI_size]
    by_cases e : j = i
    · subst e; simp [hi]
    · simp [e]
theorem tabI_congr {p : Nat} {f g : Nat → Int} (h : ∀ j, j < p → f j = g j) : tabI p f = tabI p g := by
  unfold tabI
  congr 1
  exact List.map_congr_left fun j hj => by rw [h j (by simpa using hj)]
theorem run_mki (t : TypeId) (ht : Try.prog.underlying t = some (.slice 3)) (p : Nat) (hp : p ≤ 1000000) (w : World) :
    (Instr.makeSlice t (.int .i64 (p : Int)) (.int .i64 (p : Int))).run Try.prog w = .ok (.slice (some ⟨w.heap.size, 0, none⟩) p p) (w.alloc (.cells (tabI p fun _ => 0) 3)) := by
  obtain ⟨i, hi, hz, hs, hb⟩ := info_parts info3
  have h := run_make (P := Try.prog) (w := w) t 3 i (.int .i64 0) ht hi hz .i64 .i64 p p (by omega) (by omega) (by rw [hb]; omega) (by omega)
  rw [h]
  have e : madeCells (Value.int .i64 0).cells ((p : Int).toNat * i.size) = tabI p fun _ => 0 := by
    rw [hs, Int.toNat_natCast, Nat.mul_one]
    apply Array.ext_getElem?
    intro j
    by_cases hj : j < p
    · rw [tabI_get _ hj]; simp [madeCells, hj, Value.cells, Nat.mod_one]
    · rw [Array.getElem?_eq_none (by rw [size_madeCells]; omega), Array.getElem?_eq_none (by rw [tabI_size]; omega)]
  rw [e, Int.toNat_natCast]

def b2i (b : Bool) : Int := if b then 1 else 0
def cntI (p q : Nat) (f g : Nat → Bool) (j : Nat) : Int := b2i (f (j % p)) + b2i (g (j % q))
def upI (k : Nat) (f : Nat → Int) (j : Nat) : Int := if j < k then f j else 0
theorem upI_zero (p : Nat) (f : Nat → Int) : tabI p (fun _ => 0) = tabI p (upI 0 f) := tabI_congr fun j _ => by simp [upI]
theorem upI_all (p : Nat) (f : Nat → Int) : tabI p (upI p f) = tabI p f := tabI_congr fun j h => by simp [upI, h]
theorem upI_step (p k : Nat) (f : Nat → Int) : tabI p (fun i => if i = k then f k else upI k f i) = tabI p (upI (k + 1) f) := tabI_congr fun j _ => by
  unfold upI
  by_cases e : j = k
  · subst e; simp
  · have : j < k + 1 ↔ j < k := by omega
    simp [e, this]
theorem upI_self (k : Nat) (f : Nat → Int) : upI k f k = 0 := by simp [upI]
theorem upI_keep (p k : Nat) (f : Nat → Int) (h : f k = 0) : tabI p (upI k f) = tabI p (upI (k + 1) f) := tabI_congr fun j _ => by
  unfold upI
  by_cases e : j = k
  · subst e; simp [h]
  · have : j < k + 1 ↔ j < k := by omega
    simp [this]

def JoinR (w : World) (L : Nat) (f : Nat → Int) (e : Ending) (w' : World) : Prop :=
  ∃ g, e = .returned (.slice (some ⟨g, 0, none⟩) L L) ∧ w.heap.size ≤ g ∧ Blk w' g 3 (tabI L f) ∧ Below w.heap.size w w'

theorem BoolsAt.far {w : World} {b off n : Nat} {f : Nat → Bool} (hh : BoolsAt w b off n f) {a : Addr} (ha : b ≠ a.block) (u : Value) : BoolsAt (w.setCell a u) b off n f :=
  ⟨by have := hh.1; simpa [World.setCell] using this, fun i hi => by
    rw [World.cell?_setCell_other w a ⟨b, off + i, none⟩ u (fun e => ha (by rw [e]))]; exact hh.2 i hi⟩
/-- what is kept in the loop of joined -/
structure JK (w wr : World) (gj ga gb p q : Nat) (f g : Nat → Bool) : Prop where
  bel : Below w.heap.size w wr
  c0 : wr.cell? ⟨w.heap.size, 0, none⟩ = some (.int .i64 (p : Int))
  c2 : wr.cell? ⟨w.heap.size + 1, 0, none⟩ = some (.int .i64 (q : Int))
  va : BoolsAt wr ga 0 p f
  ub : BoolsAt wr gb 0 q g
  lt : w.heap.size + 1 < gj
  la : gj < ga
  lb : gj < gb
theorem JK.set {w wr : World} {gj ga gb p q : Nat} {f g : Nat → Bool} (K : JK w wr gj ga gb p q f g) (i : Nat) (u : Value) : JK w (wr.setCell ⟨gj, i, none⟩ u) gj ga gb p q f g :=
  ⟨K.bel.setCell (p := ⟨gj, i, none⟩) (show w.heap.size ≤ gj by have := K.lt; omega) u,
   (World.cell?_setCell_other wr ⟨gj, i, none⟩ ⟨w.heap.size, 0, none⟩ u (fun e => by have := K.lt; injection e with e; omega)).trans K.c0,
   (World.cell?_setCell_other wr ⟨gj, i, none⟩ ⟨w.heap.size + 1, 0, none⟩ u (fun e => by have := K.lt; injection e with e; omega)).trans K.c2,
   K.va.far (a := ⟨gj, i, none⟩) (fun e => by have := K.la; simp at e; omega) u, K.ub.far (a := ⟨gj, i, none⟩) (fun e => by have := K.lb; simp at e; omega) u, K.lt, K.la, K.lb⟩

set_option maxHeartbeats 2000000 in
theorem joined_any (p q : Nat) (A B : Option Addr) (n c m d : Nat) (h k : Nat → Int) (w : World) (hh : HoursAt w A n h) (hk : HoursAt w B m k) (hv : winB p n h 60 = true) (hu : winB q m k 60 = true) :
    Calls Try.prog 100 #[.agg #[.int .i64 (p : Int), .slice A n c], .agg #[.int .i64 (q : Int), .slice B m d]] w (JoinR w (Nat.lcm p q) (cntI p q (opn n h) (opn m k))) := by
  have K := KW2.new (P := (p : Int)) (Q := (q : Int)) (c := c) (d := d) hh hk
  have hv1 := (winB_true.1 hv).1
  have hu1 := (winB_true.1 hu).1
  have hL := lcmI_nat p q
  have hL1 : Nat.lcm p q ≤ 60 * 60 := Nat.le_trans (Nat.le_of_dvd (Nat.mul_pos (by omega) (by omega)) (Nat.lcm_dvd_mul p q)) (Nat.mul_le_mul (by omega) (by omega))
  generalize Nat.lcm p q = L at *
  have HV := hid hv
  have HU := hid hu
  have HL := hid hL
  clear hv hu hL hh hk
  have hk0 := K.v.c0
  have hk2 := K.u.c0
  go_enter Try.func100, Try.ntmps100
  go_wp2_with fail
  refine (multiple_any p q _ (by omega) (by omega) (by omega) (by have := Int.mul_le_mul (show (p : Int) ≤ 60 by omega) (show (q : Int) ≤ 60 by omega) (by omega) (by omega); omega) (by omega)).mono ?_
  rintro e w3 ⟨rfl, m3, rfl⟩
  rw [HL.out]
  replace K := K.next (bdn (Below.refl _ _) m3)
  clear hk0 hk2
  generalize World.drewN _ m3 = W1 at *
  have hmk := run_mki 38 Try.underlying38 L (by omega) W1
  go_wp2_with fail
  have R := Blk.new W1 3 (tabI L fun _ => 0)
  have hgj : w.heap.size + 1 < W1.heap.size := K.u.lt
  replace K := K.next (box_bel W1 (.cells (tabI L fun _ => 0) 3))
  clear hmk
  generalize W1.heap.size = gj at *
  generalize W1.alloc (.cells (tabI L fun _ => 0) 3) = W2 at *
  have hk0 := K.v.c0
  have hk1 := K.v.c1
  have hk2 := K.u.c0
  have hk3 := K.u.c1
  replace K := K.drew
  replace R : Blk W2.drew gj 3 (tabI L fun _ => 0) := R
  go_region_with (first
    | (go_at_call_of 74 (Value.agg #[.int .i64 (p : Int), .slice A n c]); refine (hours_any _ _ _ _ _ 60 _ (KW.hrs (KW2.v (by assumption))) (by omega) HV.out).mono ?_; rintro e w3 ⟨ga, rfl, hga, hba, hb⟩; have hna : gj < ga := Nat.lt_of_lt_of_le (Blk.lt (g := gj) (t := 3) (by assumption)) hga; have K := KW2.next (by assumption) hb; have R := Blk.below' (g := gj) (t := 3) (by assumption) hb; have hx0 := K.v.c0; have hx1 := K.v.c1; have hx2 := K.u.c0; have hx3 := K.u.c1; have hva := BoolsAt.of_blk hba; (try have hub := BoolsAt.below hub hb); clear hb hba)
    | (go_at_call_of 74 (Value.agg #[.int .i64 (q : Int), .slice B m d]); refine (hours_any _ _ _ _ _ 60 _ (KW.hrs (KW2.u (by assumption))) (by omega) HU.out).mono ?_; rintro e w3 ⟨gb, rfl, hgb, hbb, hb⟩; have hnb : gj < gb := Nat.lt_of_lt_of_le (Blk.lt (g := gj) (t := 3) (by assumption)) hgb; have K := KW2.next (by assumption) hb; have R := Blk.below' (g := gj) (t := 3) (by assumption) hb; have hx0 := K.v.c0; have hx1 := K.v.c1; have hx2 := K.u.c0; have hx3 := K.u.c1; have hub := BoolsAt.of_blk hbb; (try have hva := BoolsAt.below hva hb); clear hb hbb))
  all_goals
    have J : JK w w3 gj ga gb p q (opn n h) (opn m k) := ⟨K.v.bel, K.v.c0, K.u.c0, hva, hub, hgj, hna, hnb⟩
    have R0 : Blk w3 gj 3 (tabI L fun _ => 0) := by assumption
    have J := hid J
    have R0 := hid R0
    clear hk0 hk1 hk2 hk3 hx0 hx1 hx2 hx3
    go_wp2_with fail
    go_loopw [21] (fun i wr => ∃ k' : Nat, k' ≤ L ∧ i = .int .i64 k' ∧ Blk wr gj 3 (tabI L (upI k' (cntI p q (opn n h) (opn m k)))) ∧ JK w wr gj ga gb p q (opn n h) (opn m k)) (fun i _ => L - (intOf i).toNat)
    case atStart => exact ⟨0, by omega, rfl, by rw [← upI_zero]; exact R0.out, J.out⟩
    case round =>
      obtain ⟨x, hx, rfl, hblk, hJ⟩ := hrel
      by_cases hlt : x < L
      · have e1 : (x : Int) % (p : Int) = ((x % p : Nat) : Int) := by simp
        have e2 : (x : Int) % (q : Int) = ((x % q : Nat) : Int) := by simp
        have l1 := Nat.mod_lt x (show 0 < p by omega)
        have l2 := Nat.mod_lt x (show 0 < q by omega)
        have hcnt : cntI p q (opn n h) (opn m k) x = b2i (opn n h (x % p)) + b2i (opn m k (x % q)) := rfl
        have ha := hJ.va.2 _ l1
        have hb := hJ.ub.2 _ l2
        have hz2 := (hJ.set x (.int .i64 1)).ub.2 _ l2
        rw [Nat.zero_add] at ha hb hz2
        have hu0 := hblk.cell x
        rw [tabI_get _ hlt, upI_self] at hu0
        have hf0 := hblk.frozen x
        have hy0 := hJ.c0
        have hy1 := hJ.c2
        have hp0 : ¬ p = 0 := by omega
        have hq0 : ¬ q = 0 := by omega
        have HSTEP := hid (upI_step L x (cntI p q (opn n h) (opn m k)))
        have HKEEP := hid (upI_keep L x (cntI p q (opn n h) (opn m k)))
        have HB := hid hblk
        have HJ := hid hJ
        generalize x % p = a at *
        generalize x % q = b at *
        clear hblk
        generalize opn n h a = X at ha hcnt
        generalize opn m k b = Y at hb hz2 hcnt
        have HCNT := hid hcnt
        have HS1 := hid (fun (e : cntI p q (opn n h) (opn m k) x = 1) => show tabI L (fun i => if i = x then (1 : Int) else upI x (cntI p q (opn n h) (opn m k)) i) = tabI L (upI (x + 1) (cntI p q (opn n h) (opn m k))) from by (have := HSTEP.out; rw [e] at this; exact this))
        clear hcnt
        cases X <;> cases Y
        · clear hJ hz2
          go_wp2
          go_roundw
          case rel => exact ⟨x + 1, by omega, by go_num, by (rw [← HKEEP.out HCNT.out]; exact HB.out), HJ.out⟩
          case measure => simp [intOf]; omega
        · clear hJ hz2
          go_wp2
          go_roundw
          case rel => exact ⟨x + 1, by omega, by go_num, by (have := HB.out.set_ x (.int .i64 1); rw [tabI_set, HS1.out HCNT.out] at this; exact this), HJ.out.set _ _⟩
          case measure => simp [intOf]; omega
        · have hz1 := (hJ.set x (.int .i64 1)).c2
          clear hJ
          go_wp2
          go_roundw
          case rel => exact ⟨x + 1, by omega, by go_num, by (have := HB.out.set_ x (.int .i64 1); rw [tabI_set, HS1.out HCNT.out] at this; exact this), HJ.out.set _ _⟩
          case measure => simp [intOf]; omega
        · have hz1 := (hJ.set x (.int .i64 1)).c2
          have hz3 := (HB.out.set_ x (.int .i64 1)).cell x
          rw [tabI_set, tabI_get _ hlt] at hz3
          simp only [if_true] at hz3
          have hz4 := (HB.out.set_ x (.int .i64 1)).frozen x
          clear hJ
          go_wp2
          go_roundw
          case rel => exact ⟨x + 1, by omega, by go_num, by (have := (HB.out.set_ x (.int .i64 1)).set_ x (.int .i64 2); rw [tabI_set, tabI_set] at this; rw [← HSTEP.out]; refine cast (congrArg _ (tabI_congr fun j _ => ?_)) this; (by_cases e : j = x <;> simp [e]); exact HCNT.out.symm), (HJ.out.set _ _).set _ _⟩
          case measure => simp [intOf]; omega
      · obtain rfl : x = L := by omega
        have HB := hid hblk
        have HJ := hid hJ
        clear hblk hJ
        go_wp2
        go_ret
        exact ⟨gj, rfl, by omega, by rw [← upI_all]; exact HB.out, HJ.out.bel⟩
end Go.Proofs.Ytfabpkcgdblnbaa
