/-
  Plain laws of rows of a print: how many there are, common rows, the longest common row. Conditions: stated at each.
-/
import Derived.Test.YtmhlgnhfbickdaaDoorMath2
namespace Go.Proofs.YtmhlgnhfbickdaaDoor
set_option linter.unusedVariables false
set_option linter.unusedSimpArgs false

section
variable {α : Type} [DecidableEq α]
/-- how many rows, and how many behind the first of each peak -/
def rh : List α → Nat × (α → Nat)
  | [] => (1, fun _ => 0)
  | x :: s => (2 * (rh s).1 - (rh s).2 x, fun y => if y = x then (rh s).1 else (rh s).2 y)
def rws (s : List α) : Nat := (rh s).1
def hws (s : List α) (x : α) : Nat := (rh s).2 x
theorem rws_nil : rws ([] : List α) = 1 := rfl
theorem hws_nil (x : α) : hws ([] : List α) x = 0 := rfl
theorem rws_cons (x : α) (s : List α) : rws (x :: s) = 2 * rws s - hws s x := rfl
theorem hws_cons (x y : α) (s : List α) : hws (x :: s) y = if y = x then rws s else hws s y := rfl
theorem hws_lt (s : List α) : ∀ y, hws s y < rws s := by
  induction s with
  | nil => intro y; rw [hws_nil, rws_nil]; omega
  | cons x s ih =>
    intro y
    have h1 := ih x
    have h2 := ih y
    rw [rws_cons, hws_cons]
    split <;> omega
theorem rws_grow (x : α) (s : List α) : rws s < rws (x :: s) ∧ rws (x :: s) ≤ 2 * rws s := by
  have := hws_lt s x
  rw [rws_cons]; omega
theorem rws_ge (s : List α) : s.length + 1 ≤ rws s := by
  induction s with
  | nil => exact Nat.le_refl _
  | cons x s ih => have := rws_grow x s; rw [List.length_cons]; omega
theorem rws_le (s : List α) : rws s ≤ 2 ^ s.length := by
  induction s with
  | nil => exact Nat.le_refl _
  | cons x s ih => have := rws_grow x s; rw [List.length_cons, Nat.pow_succ]; omega
theorem rws_same (x : α) (k : Nat) : rws (List.replicate k x) = k + 1 := by
  induction k with
  | zero => rfl
  | succ k ih =>
    rw [List.replicate_succ, rws_cons, ih]
    cases k with
    | zero => rw [List.replicate_zero, hws_nil]
    | succ k =>
      rw [List.replicate_succ, hws_cons, if_pos rfl]
      have : rws (x :: List.replicate k x) = k + 1 + 1 := by rw [← List.replicate_succ]; exact ih
      have h2 := rws_cons x (List.replicate k x)
      cases k with
      | zero => rw [List.replicate_zero, rws_nil]
      | succ k =>
        have h3 : hws (List.replicate (k + 1) x) x = rws (List.replicate k x) := by rw [List.replicate_succ, hws_cons, if_pos rfl]
        have h4 := rws_ge (List.replicate k x)
        have h5 := rws_ge (List.replicate (k + 1) x)
        have h6 := (rws_grow x (List.replicate k x)).1
        rw [← List.replicate_succ] at h6
        have h7 := (rws_grow x (List.replicate (k + 1) x)).1
        simp only [List.length_replicate] at h4 h5
        rw [h3, this] at h2
        omega

/-! ### all rows, each once -/
variable (ab : List α)
def subs : List α → List (List α) × (α → List (List α))
  | [] => ([[]], fun _ => [])
  | x :: s => ([] :: ab.flatMap (fun q => (if q = x then (subs s).1 else (subs s).2 q).map (q :: ·)), fun q => if q = x then (subs s).1 else (subs s).2 q)
theorem subs_2 (s : List α) (x y : α) : (subs ab (x :: s)).2 y = if y = x then (subs ab s).1 else (subs ab s).2 y := rfl
theorem subs_1 (s : List α) : (subs ab s).1 = [] :: ab.flatMap (fun q => ((subs ab s).2 q).map (q :: ·)) := by
  cases s with
  | nil =>
    show [[]] = [] :: ab.flatMap (fun q => List.map (q :: ·) [])
    congr 1
    symm
    rw [List.flatMap_eq_nil_iff]
    intro x _; rfl
  | cons x s => rfl
theorem subs_mem (s : List α) : (∀ x ∈ s, x ∈ ab) → (∀ l, l ∈ (subs ab s).1 ↔ l.Sublist s) ∧ (∀ q l, l ∈ (subs ab s).2 q ↔ (q :: l).Sublist s) := by
  induction s with
  | nil =>
    intro _
    refine ⟨fun l => ?_, fun q l => ?_⟩
    · show l ∈ [[]] ↔ _
      simp
    · show l ∈ [] ↔ _
      simp
  | cons x s ih =>
    intro hs
    obtain ⟨i1, i2⟩ := ih fun y hy => hs y (List.mem_cons_of_mem _ hy)
    have k2 : ∀ q l, l ∈ (subs ab (x :: s)).2 q ↔ (q :: l).Sublist (x :: s) := by
      intro q l
      rw [subs_2]
      by_cases e : q = x
      · subst e
        rw [if_pos rfl, i1, List.cons_sublist_cons]
      · rw [if_neg e, i2]
        constructor
        · exact fun h => h.cons x
        · intro h
          cases h with
          | cons _ h => exact h
          | cons_cons _ h => exact absurd rfl e
    refine ⟨fun l => ?_, k2⟩
    rw [subs_1]
    cases l with
    | nil => simp
    | cons q l =>
      simp only [List.mem_cons, reduceCtorEq, false_or, List.mem_flatMap, List.mem_map]
      constructor
      · rintro ⟨q', _, l', hl, he⟩
        injection he with e1 e2
        subst e1 e2
        exact (k2 _ _).1 hl
      · intro h
        exact ⟨q, hs q (h.subset (List.mem_cons_self ..)), l, (k2 _ _).2 h, rfl⟩
theorem subs_nodup (hab : ab.Nodup) (s : List α) : (subs ab s).1.Nodup ∧ ∀ q, ((subs ab s).2 q).Nodup := by
  induction s with
  | nil =>
    refine ⟨?_, fun q => ?_⟩
    · show ([[]] : List (List α)).Nodup
      simp
    · show ([] : List (List α)).Nodup
      simp
  | cons x s ih =>
    have k2 : ∀ q, ((subs ab (x :: s)).2 q).Nodup := by
      intro q
      rw [subs_2]
      split
      · exact ih.1
      · exact ih.2 q
    refine ⟨?_, k2⟩
    rw [subs_1, List.nodup_cons]
    refine ⟨by simp, ?_⟩
    unfold List.Nodup at hab ⊢
    rw [List.pairwise_flatMap]
    refine ⟨fun q _ => ?_, ?_⟩
    · rw [List.pairwise_map]
      exact List.Pairwise.imp (fun h e => h (by injection e)) (k2 q)
    · refine List.Pairwise.imp ?_ hab
      intro q q' hne l hl l' hl' e
      simp only [List.mem_map] at hl hl'
      obtain ⟨a, _, rfl⟩ := hl
      obtain ⟨b, _, rfl⟩ := hl'
      injection e with e1
      exact hne e1
def sumOf (f : α → Nat) (l : List α) : Nat := (l.map f).sum
theorem sumOf_one (f g : α → Nat) (x : α) (l : List α) (hl : l.Nodup) (hx : x ∈ l) (h : ∀ y, y ≠ x → f y = g y) : sumOf f l + g x = sumOf g l + f x := by
  unfold sumOf
  induction l with
  | nil => cases hx
  | cons y l ih =>
    rw [List.nodup_cons] at hl
    rw [List.map_cons, List.map_cons, List.sum_cons, List.sum_cons]
    by_cases e : y = x
    · subst e
      have : l.map f = l.map g := List.map_congr_left fun z hz => h z (fun e => hl.1 (e ▸ hz))
      rw [this]; omega
    · rw [h y e]
      have := ih hl.2 (by cases hx with | head => exact absurd rfl e | tail _ h => exact h)
      omega
/-- the rows that begin with each peak -/
theorem rws_sum (hab : ab.Nodup) (s : List α) : (∀ x ∈ s, x ∈ ab) → rws s = 1 + sumOf (hws s) ab := by
  induction s with
  | nil =>
    intro _
    have : sumOf (hws ([] : List α)) ab = 0 := by
      unfold sumOf
      clear hab
      induction ab with
      | nil => rfl
      | cons y l ih => rw [List.map_cons, List.sum_cons, ih (by simp), hws_nil]
    rw [this, rws_nil]
  | cons x s ih =>
    intro hs
    have h1 := ih fun y hy => hs y (List.mem_cons_of_mem _ hy)
    have h2 := sumOf_one (hws (x :: s)) (hws s) x ab hab (hs x (List.mem_cons_self ..)) (fun y hy => by rw [hws_cons, if_neg hy])
    have h3 := hws_lt s x
    rw [hws_cons, if_pos rfl] at h2
    rw [rws_cons]; omega
theorem subs_len (hab : ab.Nodup) (s : List α) : (∀ x ∈ s, x ∈ ab) → (subs ab s).1.length = rws s ∧ ∀ q, ((subs ab s).2 q).length = hws s q := by
  induction s with
  | nil => intro _; exact ⟨rfl, fun q => rfl⟩
  | cons x s ih =>
    intro hs
    have hi := ih fun y hy => hs y (List.mem_cons_of_mem _ hy)
    have k2 : ∀ q, ((subs ab (x :: s)).2 q).length = hws (x :: s) q := by
      intro q
      rw [subs_2, hws_cons]
      split
      · exact hi.1
      · exact hi.2 q
    refine ⟨?_, k2⟩
    rw [subs_1, List.length_cons, List.length_flatMap, rws_sum ab hab (x :: s) hs]
    unfold sumOf
    rw [show (ab.map fun q => (List.map (q :: ·) ((subs ab (x :: s)).2 q)).length) = ab.map (hws (x :: s)) from List.map_congr_left fun q _ => by rw [List.length_map, k2]]
    omega
theorem rws_rev (hab : ab.Nodup) (s : List α) (hs : ∀ x ∈ s, x ∈ ab) : rws s.reverse = rws s := by
  have hs' : ∀ x ∈ s.reverse, x ∈ ab := fun x hx => hs x (by simpa using hx)
  rw [← (subs_len ab hab s hs).1, ← (subs_len ab hab s.reverse hs').1, ← List.length_map (f := List.reverse) (as := (subs ab s).1)]
  refine List.Perm.length_eq ((List.perm_ext_iff_of_nodup (subs_nodup ab hab _).1 ?_).2 fun l => ?_)
  · have := (subs_nodup ab hab s).1
    unfold List.Nodup at this ⊢
    rw [List.pairwise_map]
    exact List.Pairwise.imp (fun h e => h (List.reverse_inj.1 e)) this
  · rw [(subs_mem ab s.reverse hs').1, List.mem_map]
    constructor
    · intro h
      refine ⟨l.reverse, ((subs_mem ab s hs).1 _).2 ?_, List.reverse_reverse l⟩
      have := List.reverse_sublist.2 h
      rwa [List.reverse_reverse] at this
    · rintro ⟨a, ha, rfl⟩
      exact List.reverse_sublist.2 (((subs_mem ab s hs).1 _).1 ha)

/-! ### common rows -/
/-- what is left behind the first of a peak -/
def aft : List α → α → Option (List α)
  | [], _ => none
  | y :: s, x => if y = x then some s else aft s x
theorem hws_aft (s : List α) (x : α) : hws s x = match aft s x with | none => 0 | some s' => rws s' := by
  induction s with
  | nil => rfl
  | cons y s ih =>
    rw [hws_cons]
    unfold aft
    by_cases e : y = x
    · rw [if_pos e, if_pos e.symm]
    · rw [if_neg e, if_neg (fun h => e h.symm), ih]
theorem aft_split {s s' : List α} {x : α} (h : aft s x = some s') : ∃ a, s = a ++ x :: s' ∧ x ∉ a := by
  induction s with
  | nil => cases h
  | cons y s ih =>
    unfold aft at h
    by_cases e : y = x
    · rw [if_pos e] at h
      injection h with h
      subst e h
      exact ⟨[], rfl, by simp⟩
    · rw [if_neg e] at h
      obtain ⟨a, rfl, ha⟩ := ih h
      exact ⟨y :: a, rfl, by simp only [List.mem_cons, not_or]; exact ⟨fun h => e h.symm, ha⟩⟩
theorem aft_none {s : List α} {x : α} : aft s x = none ↔ x ∉ s := by
  induction s with
  | nil => simp [aft]
  | cons y s ih =>
    unfold aft
    by_cases e : y = x
    · subst e; simp
    · rw [if_neg e, ih]
      simp only [List.mem_cons, not_or]
      exact ⟨fun h => ⟨fun h' => e h'.symm, h⟩, fun h => h.2⟩
theorem aft_sub {s s' l : List α} {x : α} (h : aft s x = some s') : (x :: l).Sublist s ↔ l.Sublist s' := by
  induction s with
  | nil => cases h
  | cons y s ih =>
    unfold aft at h
    by_cases e : y = x
    · rw [if_pos e] at h
      injection h with h
      subst e h
      exact List.cons_sublist_cons
    · rw [if_neg e] at h
      rw [← ih h]
      constructor
      · intro h2
        cases h2 with
        | cons _ h2 => exact h2
        | cons_cons _ h2 => exact absurd rfl e
      · exact fun h2 => h2.cons y
/-- is it a row of s: by the first place of each peak -/
def wth : List α → List α → Bool
  | [], _ => true
  | r :: row, s => match aft s r with
    | none => false
    | some s' => wth row s'
theorem wth_iff (row : List α) : ∀ s : List α, wth row s = true ↔ row.Sublist s := by
  induction row with
  | nil => intro s; simp [wth]
  | cons r row ih =>
    intro s
    unfold wth
    cases h : aft s r with
    | none =>
      simp only [Bool.false_eq_true, false_iff]
      intro h2
      exact aft_none.1 h (h2.subset (List.mem_cons_self ..))
    | some s' => rw [aft_sub h]; exact ih s'
/-- .. by going through s -/
def wth2 : List α → List α → List α
  | row, [] => row
  | [], _ :: _ => []
  | r :: row, x :: s => if r = x then wth2 row s else wth2 (r :: row) s
theorem wth2_nil (s : List α) : wth2 [] s = [] := by cases s <;> rfl
theorem wth2_cons (r x : α) (row s : List α) : wth2 (r :: row) (x :: s) = if r = x then wth2 row s else wth2 (r :: row) s := rfl
theorem wth2_iff (s : List α) : ∀ row : List α, wth2 row s = [] ↔ row.Sublist s := by
  induction s with
  | nil => intro row; cases row <;> simp [wth2]
  | cons x s ih =>
    intro row
    cases row with
    | nil => simp [wth2]
    | cons r row =>
      rw [wth2_cons]
      by_cases e : r = x
      · subst e; rw [if_pos rfl, ih, List.cons_sublist_cons]
      · rw [if_neg e, ih]
        constructor
        · exact fun h => h.cons x
        · intro h
          cases h with
          | cons _ h => exact h
          | cons_cons _ h => exact absurd rfl e

def lcsRow (x : α) (f : List α → Nat) : List α → Nat
  | [] => 0
  | y :: t => if x = y then 1 + f t else max (f (y :: t)) (lcsRow x f t)
/-- the length of the longest common row -/
def lcs : List α → List α → Nat
  | [], _ => 0
  | x :: s, t => lcsRow x (lcs s) t
theorem lcs_nil (t : List α) : lcs [] t = 0 := rfl
theorem lcs_cons_nil (x : α) (s : List α) : lcs (x :: s) [] = 0 := rfl
theorem lcs_nil_r (s : List α) : lcs s [] = 0 := by cases s <;> rfl
theorem lcs_cons (x y : α) (s t : List α) : lcs (x :: s) (y :: t) = if x = y then 1 + lcs s t else max (lcs s (y :: t)) (lcs (x :: s) t) := rfl
/-- the distance by it, where a change costs no less than to leave and put -/
theorem dst_lcs {p c : Nat} (h : 2 * p ≤ c) (s : List α) : ∀ t : List α, dst p c s t + 2 * p * lcs s t = p * (s.length + t.length) := by
  have rt : ∀ (y : α) (s t : List α), dst p c s t ≤ p + dst p c s (y :: t) := by
    intro y s t
    have h1 := dst_triangle (p := p) (c := c) s (y :: t) t
    have h2 := dst_le_left (p := p) (c := c) y t t
    rw [dst_self] at h2
    omega
  induction s with
  | nil => intro t; rw [dst_nil, lcs_nil, List.length_nil]; simp
  | cons x s ih =>
    intro t
    induction t with
    | nil => rw [dst_nil_r, lcs_cons_nil]; simp
    | cons y t ih2 =>
      have i1 := ih t
      have i2 := ih (y :: t)
      have e1 : p * (s.length + (t.length + 1)) = p * (s.length + t.length) + p := by rw [← Nat.add_assoc, Nat.mul_succ]
      have e2 : p * (s.length + 1 + t.length) = p * (s.length + t.length) + p := by rw [Nat.add_right_comm, Nat.mul_succ]
      have e3 : p * (s.length + 1 + (t.length + 1)) = p * (s.length + t.length) + p + p := by rw [← Nat.add_assoc, Nat.mul_succ, e2]
      simp only [List.length_cons, e1, e2, e3] at i2 ih2 ⊢
      have hd := dst_cons (p := p) (c := c) x y s t
      have r1 := rt y s t
      have r2 := dst_le_right (p := p) (c := c) y s t
      rw [lcs_cons]
      have rl : dst p c s t ≤ p + dst p c (x :: s) t := by
        have h1 := dst_triangle (p := p) (c := c) s (x :: s) t
        have h2 := dst_le_right (p := p) (c := c) x s s
        rw [dst_self] at h2
        omega
      by_cases e : x = y
      · have hz : sub c x y = 0 := if_pos e
        rw [if_pos e, Nat.mul_add, Nat.mul_one]
        omega
      · have hz : sub c x y = c := if_neg e
        rw [if_neg e]
        rcases Nat.le_total (lcs s (y :: t)) (lcs (x :: s) t) with hm | hm
        · have := Nat.mul_le_mul_left (2 * p) hm
          rw [Nat.max_eq_right hm]; omega
        · have := Nat.mul_le_mul_left (2 * p) hm
          rw [Nat.max_eq_left hm]; omega
theorem lcs_left (x : α) (s t : List α) : lcs s t ≤ lcs (x :: s) t := by
  have h1 := dst_lcs (p := 1) (c := 2) (by omega) s t
  have h2 := dst_lcs (p := 1) (c := 2) (by omega) (x :: s) t
  have h3 := dst_le_left (p := 1) (c := 2) x s t
  rw [List.length_cons] at h2
  omega
theorem lcs_right (y : α) (s t : List α) : lcs s t ≤ lcs s (y :: t) := by
  have h1 := dst_lcs (p := 1) (c := 2) (by omega) s t
  have h2 := dst_lcs (p := 1) (c := 2) (by omega) s (y :: t)
  have h3 := dst_le_right (p := 1) (c := 2) y s t
  rw [List.length_cons] at h2
  omega
theorem lcs_app (a s t : List α) : lcs s t ≤ lcs (a ++ s) t := by
  induction a with
  | nil => exact Nat.le_refl _
  | cons x a ih => exact Nat.le_trans ih (lcs_left x _ _)
theorem lcs_app_r (a s t : List α) : lcs s t ≤ lcs s (a ++ t) := by
  induction a with
  | nil => exact Nat.le_refl _
  | cons x a ih => exact Nat.le_trans ih (lcs_right x _ _)
theorem lcs_aft {s t s' t' : List α} {x : α} (h1 : aft s x = some s') (h2 : aft t x = some t') : 1 + lcs s' t' ≤ lcs s t := by
  obtain ⟨a, rfl, _⟩ := aft_split h1
  obtain ⟨b, rfl, _⟩ := aft_split h2
  refine Nat.le_trans ?_ (lcs_app a _ _)
  refine Nat.le_trans ?_ (lcs_app_r b _ _)
  rw [lcs_cons, if_pos rfl]
  exact Nat.le_refl _
/-- there is a first peak of a longest common row -/
theorem lcs_pick (s : List α) : ∀ t : List α, 0 < lcs s t → ∃ x s' t', aft s x = some s' ∧ aft t x = some t' ∧ lcs s' t' + 1 = lcs s t := by
  induction s with
  | nil => intro t h; rw [lcs_nil] at h; omega
  | cons x s ih =>
    intro t
    induction t with
    | nil => intro h; rw [lcs_cons_nil] at h; omega
    | cons y t ih2 =>
      intro h
      have hc := lcs_cons x y s t
      by_cases e : x = y
      · subst e
        rw [if_pos rfl] at hc
        exact ⟨x, s, t, by simp [aft], by simp [aft], by omega⟩
      · rw [if_neg e] at hc
        rcases Nat.le_total (lcs s (y :: t)) (lcs (x :: s) t) with hm | hm
        · rw [Nat.max_eq_right hm] at hc
          obtain ⟨z, s', t', h1, h2, h3⟩ := ih2 (by omega)
          by_cases ez : y = z
          · subst ez
            have h4 : aft (y :: t) y = some t := by simp [aft]
            have h5 := lcs_aft h1 h4
            obtain ⟨b, hb, _⟩ := aft_split h2
            have h6 : lcs s' t' ≤ lcs s' t := by
              rw [hb, show b ++ y :: t' = (b ++ [y]) ++ t' by simp]
              exact lcs_app_r _ _ _
            exact ⟨y, s', t, h1, h4, by omega⟩
          · exact ⟨z, s', t', h1, by unfold aft; rw [if_neg ez]; exact h2, by omega⟩
        · rw [Nat.max_eq_left hm] at hc
          obtain ⟨z, s', t', h1, h2, h3⟩ := ih (y :: t) (by omega)
          by_cases ez : x = z
          · subst ez
            have h4 : aft (x :: s) x = some s := by simp [aft]
            have h5 := lcs_aft h4 h2
            obtain ⟨b, hb, _⟩ := aft_split h1
            have h6 : lcs s' t' ≤ lcs s t' := by
              rw [hb, show b ++ x :: s' = (b ++ [x]) ++ s' by simp]
              exact lcs_app _ _ _
            exact ⟨x, s, t', h4, h2, by omega⟩
          · exact ⟨z, s', t', by unfold aft; rw [if_neg ez]; exact h1, h2, by omega⟩
/-- a common row is no longer -/
theorem lcs_max {r s t : List α} (h1 : r.Sublist s) (h2 : r.Sublist t) : r.length ≤ lcs s t := by
  have key : ∀ r s : List α, r.Sublist s → dst 1 2 s r + r.length ≤ s.length ∧ r.length ≤ s.length := by
    intro r s h
    induction h with
    | slnil => exact ⟨Nat.le_refl _, Nat.le_refl _⟩
    | cons x _ ih => have := dst_le_left (p := 1) (c := 2) x ‹List α› ‹List α›; simp only [List.length_cons]; rename_i l1 l2 _; have := dst_le_left (p := 1) (c := 2) x l2 l1; omega
    | cons_cons x _ ih => rename_i l1 l2 _; have := dst_le_sub (p := 1) (c := 2) x x l2 l1; rw [sub_self] at this; simp only [List.length_cons]; omega
  have k1 := key r s h1
  have k2 := key r t h2
  have h3 := dst_triangle (p := 1) (c := 2) s r t
  rw [dst_comm r t] at h3
  have h4 := dst_lcs (p := 1) (c := 2) (by omega) s t
  omega
/-- may the common row go on by this peak -/
def isPick (s t : List α) (x : α) : Bool := match aft s x, aft t x with
  | some s', some t' => decide (lcs s' t' + 1 = lcs s t)
  | _, _ => false
theorem isPick_some {s t : List α} {x : α} (h : isPick s t x = true) : ∃ s' t', aft s x = some s' ∧ aft t x = some t' ∧ lcs s' t' + 1 = lcs s t := by
  unfold isPick at h
  cases h1 : aft s x with
  | none => rw [h1] at h; cases h
  | some s' =>
    cases h2 : aft t x with
    | none => rw [h1, h2] at h; cases h
    | some t' => rw [h1, h2] at h; exact ⟨s', t', rfl, rfl, by simpa using h⟩
/-- the first common row of the longest -/
def cmF : Nat → List α → List α → List α
  | 0, _, _ => []
  | n + 1, s, t => match ab.find? (isPick s t) with
    | none => []
    | some x => match aft s x, aft t x with
      | some s', some t' => x :: cmF n s' t'
      | _, _ => []
theorem cmF_succ {s t s' t' : List α} {x : α} (n : Nat) (hf : ab.find? (isPick s t) = some x) (h1 : aft s x = some s') (h2 : aft t x = some t') : cmF ab (n + 1) s t = x :: cmF ab n s' t' := by
  conv => lhs; unfold cmF
  rw [hf]
  simp only [h1, h2]
def cmn (s t : List α) : List α := cmF ab (lcs s t) s t
theorem cmn_pick {s t : List α} (hs : ∀ x ∈ s, x ∈ ab) (h : 0 < lcs s t) : ∃ x, ab.find? (isPick s t) = some x := by
  obtain ⟨x, s', t', h1, h2, h3⟩ := lcs_pick s t h
  have hx : x ∈ ab := by
    obtain ⟨a, rfl, _⟩ := aft_split h1
    exact hs x (by simp)
  have hp : isPick s t x = true := by unfold isPick; rw [h1, h2]; simpa using h3
  cases hf : ab.find? (isPick s t) with
  | none => exact absurd hp (by simpa using List.find?_eq_none.1 hf x hx)
  | some y => exact ⟨y, rfl⟩
theorem cmn_nil {s t : List α} (h : lcs s t = 0) : cmn ab s t = [] := by unfold cmn; rw [h]; rfl
theorem cmn_step {s t s' t' : List α} {x : α} (hf : ab.find? (isPick s t) = some x) (h1 : aft s x = some s') (h2 : aft t x = some t') : cmn ab s t = x :: cmn ab s' t' := by
  obtain ⟨a, b, g1, g2, g3⟩ := isPick_some (List.find?_some hf)
  rw [h1] at g1
  rw [h2] at g2
  injection g1 with g1
  injection g2 with g2
  subst g1 g2
  unfold cmn
  rw [← g3]
  exact cmF_succ ab _ hf h1 h2
theorem cmn_is (n : Nat) : ∀ s t : List α, (∀ x ∈ s, x ∈ ab) → lcs s t = n → (cmn ab s t).length = n ∧ (cmn ab s t).Sublist s ∧ (cmn ab s t).Sublist t := by
  induction n with
  | zero => intro s t hs h; rw [cmn_nil ab h]; exact ⟨rfl, List.nil_sublist _, List.nil_sublist _⟩
  | succ n ih =>
    intro s t hs h
    obtain ⟨x, hf⟩ := cmn_pick ab (t := t) hs (by omega)
    obtain ⟨s', t', h1, h2, h3⟩ := isPick_some (List.find?_some hf)
    have hs' : ∀ y ∈ s', y ∈ ab := by
      obtain ⟨a, rfl, _⟩ := aft_split h1
      exact fun y hy => hs y (by simp [hy])
    have h3' : lcs s' t' = n := by omega
    obtain ⟨i1, i2, i3⟩ := ih s' t' hs' h3'
    rw [cmn_step ab hf h1 h2]
    exact ⟨by rw [List.length_cons, i1], (aft_sub h1).2 i2, (aft_sub h2).2 i3⟩
end
end Go.Proofs.YtmhlgnhfbickdaaDoor
