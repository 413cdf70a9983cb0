/-
  Plain laws of distances of two lists: the least cost, how many ways, the triangle, the other way round. Conditions: stated at each.
-/
namespace Go.Proofs.YtmhlgnhfbickdaaDoor
set_option linter.unusedVariables false
set_option linter.unusedSimpArgs false

section
variable {α : Type} [DecidableEq α]
/-- what it costs to take one for the other -/
def sub (c : Nat) (x y : α) : Nat := if x = y then 0 else c
def dstRow (p c : Nat) (x : α) (f : List α → Nat) : List α → Nat
  | [] => p + f []
  | y :: t => min (min (sub c x y + f t) (p + f (y :: t))) (p + dstRow p c x f t)
/-- the distance of two lists -/
def dst (p c : Nat) : List α → List α → Nat
  | [], t => p * t.length
  | x :: s, t => dstRow p c x (dst p c s) t
variable {p c : Nat}
theorem dst_nil (t : List α) : dst p c [] t = p * t.length := rfl
theorem dst_cons_nil (x : α) (s : List α) : dst p c (x :: s) [] = p + dst p c s [] := rfl
theorem dst_cons (x y : α) (s t : List α) : dst p c (x :: s) (y :: t) = min (min (sub c x y + dst p c s t) (p + dst p c s (y :: t))) (p + dst p c (x :: s) t) := rfl
theorem dst_nil_cons (y : α) (t : List α) : dst p c ([] : List α) (y :: t) = p + dst p c [] t := by
  rw [dst_nil, dst_nil, List.length_cons, Nat.mul_succ]; omega
theorem dst_nil_r (s : List α) : dst p c s [] = p * s.length := by
  induction s with
  | nil => rfl
  | cons x s ih => rw [dst_cons_nil, ih, List.length_cons, Nat.mul_succ]; omega
theorem dst_nil_nil : dst p c ([] : List α) [] = 0 := rfl

theorem sub_self (x : α) : sub c x x = 0 := by simp [sub]
theorem sub_le (x y : α) : sub c x y ≤ c := by unfold sub; split <;> omega
theorem sub_comm (x y : α) : sub c x y = sub c y x := by
  unfold sub
  by_cases h : x = y
  · subst h; rfl
  · rw [if_neg h, if_neg (Ne.symm h)]
theorem sub_tri (x y z : α) : sub c x z ≤ sub c x y + sub c y z := by
  by_cases h : x = y
  · subst h; rw [sub_self]; omega
  · have h1 : sub c x y = c := if_neg h
    have := sub_le (c := c) x z
    omega
theorem dst_le_sub (x y : α) (s t : List α) : dst p c (x :: s) (y :: t) ≤ sub c x y + dst p c s t := by rw [dst_cons]; omega
theorem dst_le_left (x : α) (s t : List α) : dst p c (x :: s) t ≤ p + dst p c s t := by
  cases t with
  | nil => exact Nat.le_refl _
  | cons y t => rw [dst_cons]; omega
theorem dst_le_right (y : α) (s t : List α) : dst p c s (y :: t) ≤ p + dst p c s t := by
  cases s with
  | nil => rw [dst_nil_cons]; exact Nat.le_refl _
  | cons x s => rw [dst_cons]; omega

theorem dst_comm (s t : List α) : dst p c s t = dst p c t s := by
  induction s generalizing t with
  | nil => rw [dst_nil, dst_nil_r]
  | cons x s ih =>
    induction t with
    | nil => rw [dst_nil, dst_nil_r]
    | cons y t ih2 =>
      rw [dst_cons, dst_cons, ih t, ih (y :: t), ih2, sub_comm]
      omega
theorem dst_self (s : List α) : dst p c s s = 0 := by
  induction s with
  | nil => rfl
  | cons x s ih => have := dst_le_sub (p := p) (c := c) x x s s; rw [sub_self] at this; omega
theorem dst_zero (hp : 1 ≤ p) (hc : 1 ≤ c) (s t : List α) : dst p c s t = 0 ↔ s = t := by
  constructor
  · induction s generalizing t with
    | nil =>
      cases t with
      | nil => intro _; rfl
      | cons y t => rw [dst_nil_cons]; omega
    | cons x s ih =>
      cases t with
      | nil => rw [dst_cons_nil]; omega
      | cons y t =>
        rw [dst_cons]
        intro h
        have h1 : sub c x y + dst p c s t = 0 := by omega
        have h2 : sub c x y = 0 := by omega
        have h3 : x = y := by
          unfold sub at h2
          by_cases e : x = y
          · exact e
          · rw [if_neg e] at h2; omega
        rw [h3, ih t (by omega)]
  · rintro rfl; exact dst_self s
theorem dst_tri (n : Nat) : ∀ s t u : List α, s.length + t.length + u.length ≤ n → dst p c s u ≤ dst p c s t + dst p c t u := by
  induction n with
  | zero =>
    intro s t u h
    have h1 : s = [] := List.eq_nil_of_length_eq_zero (by omega)
    have h2 : u = [] := List.eq_nil_of_length_eq_zero (by omega)
    subst h1 h2
    rw [dst_nil_nil]; omega
  | succ n ih =>
    intro s t u h
    cases s with
    | nil =>
      cases u with
      | nil => rw [dst_nil_nil]; omega
      | cons z u =>
        have hu := dst_nil_cons (p := p) (c := c) z u
        cases t with
        | nil => rw [dst_nil_nil]; omega
        | cons y t =>
          have ht := dst_nil_cons (p := p) (c := c) y t
          have hyz := dst_cons (p := p) (c := c) y z t u
          have i1 := ih [] t u (by simp at h ⊢; omega)
          have i2 := ih [] t (z :: u) (by simp at h ⊢; omega)
          have i3 := ih [] (y :: t) u (by simp at h ⊢; omega)
          have hz := sub_le (c := c) y z
          omega
    | cons x s =>
      cases u with
      | nil =>
        have hu := dst_cons_nil (p := p) (c := c) x s
        cases t with
        | nil => rw [dst_nil_nil]; omega
        | cons y t =>
          have ht := dst_cons_nil (p := p) (c := c) y t
          have hyz := dst_cons (p := p) (c := c) x y s t
          have i1 := ih s t [] (by simp at h ⊢; omega)
          have i2 := ih s (y :: t) [] (by simp at h ⊢; omega)
          have i3 := ih (x :: s) t [] (by simp at h ⊢; omega)
          omega
      | cons z u =>
        cases t with
        | nil =>
          have h1 := dst_cons_nil (p := p) (c := c) x s
          have h2 := dst_nil_cons (p := p) (c := c) z u
          have h3 := dst_le_left (p := p) (c := c) x s (z :: u)
          have i1 := ih s [] (z :: u) (by simp at h ⊢; omega)
          omega
        | cons y t =>
          have h1 := dst_cons (p := p) (c := c) x y s t
          have h2 := dst_cons (p := p) (c := c) y z t u
          have h3 := dst_cons (p := p) (c := c) x z s u
          have t1 := sub_tri (c := c) x y z
          have i1 := ih s t u (by simp at h ⊢; omega)
          have i2 := ih s (y :: t) (z :: u) (by simp at h ⊢; omega)
          have i3 := ih (x :: s) t (z :: u) (by simp at h ⊢; omega)
          have i4 := ih (x :: s) t u (by simp at h ⊢; omega)
          have i5 := ih s t (z :: u) (by simp at h ⊢; omega)
          have i6 := ih (x :: s) (y :: t) u (by simp at h ⊢; omega)
          have hz := sub_le (c := c) x y
          omega
theorem dst_triangle (s t u : List α) : dst p c s u ≤ dst p c s t + dst p c t u := dst_tri _ s t u (Nat.le_refl _)
theorem dst_hi (s t : List α) : dst p c s t ≤ p * (s.length + t.length) := by
  have h1 := dst_triangle (p := p) (c := c) s [] t
  rw [dst_nil, dst_nil_r] at h1
  rw [Nat.mul_add]; exact h1
theorem dst_lo (s t : List α) : p * (s.length - t.length) ≤ dst p c s t := by
  have h1 := dst_triangle (p := p) (c := c) s t []
  rw [dst_nil_r, dst_nil_r] at h1
  rw [Nat.mul_sub]; omega

/-! ### how many ways -/
/-- f, so much later -/
def sh (k : Nat) (f : Nat → Nat) (n : Nat) : Nat := if k ≤ n then f (n - k) else 0
theorem sh_sh (a b : Nat) (f : Nat → Nat) : sh a (sh b f) = sh (a + b) f := by
  funext n
  unfold sh
  by_cases h1 : a ≤ n
  · by_cases h2 : b ≤ n - a
    · rw [if_pos h1, if_pos h2, if_pos (by omega), Nat.sub_sub]
    · rw [if_pos h1, if_neg h2, if_neg (by omega)]
  · rw [if_neg h1, if_neg (by omega)]
theorem sh_add (a : Nat) (f g : Nat → Nat) (n : Nat) : sh a (fun n => f n + g n) n = sh a f n + sh a g n := by
  unfold sh; split
  · rfl
  · rfl
theorem sh_low {a : Nat} {f : Nat → Nat} {n : Nat} (h : n < a) : sh a f n = 0 := by unfold sh; rw [if_neg (by omega)]
theorem sh_hit {a : Nat} {f : Nat → Nat} (n : Nat) : sh a f (a + n) = f n := by unfold sh; rw [if_pos (by omega)]; congr 1; omega
def alRow (p c : Nat) (x : α) (f : List α → Nat → Nat) : List α → Nat → Nat
  | [] => sh p (f [])
  | y :: t => fun n => sh (sub c x y) (f t) n + sh p (f (y :: t)) n + sh p (alRow p c x f t) n
/-- how many lists of edits have just that cost -/
def al (p c : Nat) : List α → List α → Nat → Nat
  | [], t => fun n => if n = p * t.length then 1 else 0
  | x :: s, t => alRow p c x (al p c s) t
theorem al_nil_nil : al p c ([] : List α) [] = fun n => if n = 0 then 1 else 0 := rfl
theorem al_nil_cons (y : α) (t : List α) : al p c ([] : List α) (y :: t) = sh p (al p c [] t) := by
  funext n
  show (if n = p * (t.length + 1) then 1 else 0) = sh p (fun n => if n = p * t.length then 1 else 0) n
  unfold sh
  rw [Nat.mul_succ]
  by_cases h : p ≤ n
  · rw [if_pos h]
    show _ = if n - p = p * t.length then 1 else 0
    by_cases h2 : n = p * t.length + p
    · rw [if_pos h2, if_pos (by omega)]
    · rw [if_neg h2, if_neg (by omega)]
  · rw [if_neg h, if_neg (by omega)]
theorem al_cons_nil (x : α) (s : List α) : al p c (x :: s) [] = sh p (al p c s []) := rfl
theorem al_cons (x y : α) (s t : List α) : al p c (x :: s) (y :: t) = fun n => sh (sub c x y) (al p c s t) n + sh p (al p c s (y :: t)) n + sh p (al p c (x :: s) t) n := rfl
theorem al_snoc_nil (x : α) (s : List α) : al p c (s ++ [x]) [] = sh p (al p c s []) := by
  induction s with
  | nil => rfl
  | cons a s ih => rw [List.cons_append, al_cons_nil, ih, al_cons_nil]
theorem al_nil_snoc (y : α) (t : List α) : al p c ([] : List α) (t ++ [y]) = sh p (al p c [] t) := by
  induction t with
  | nil => exact al_nil_cons y []
  | cons b t ih => rw [List.cons_append, al_nil_cons, ih, al_nil_cons]
theorem al_snoc (x y : α) : ∀ (s t : List α) (n : Nat), al p c (s ++ [x]) (t ++ [y]) n = sh (sub c x y) (al p c s t) n + sh p (al p c s (t ++ [y])) n + sh p (al p c (s ++ [x]) t) n := by
  intro s
  induction s with
  | nil =>
    intro t
    induction t with
    | nil => intro n; simp only [List.nil_append, al_cons]
    | cons b t ih2 =>
      intro n
      have e1 : al p c ([x] : List α) (t ++ [y]) = fun n => (sh (sub c x y) (al p c [] t) n + sh p (al p c [] (t ++ [y])) n) + sh p (al p c [x] t) n := by funext m; exact ih2 m
      simp only [List.nil_append, List.cons_append, al_cons, e1, sh_add, sh_sh, al_nil_snoc, al_nil_cons]
      rw [Nat.add_comm p (sub c x y), Nat.add_comm p (sub c x b)]
      omega
  | cons a s ih =>
    intro t
    induction t with
    | nil =>
      intro n
      have e1 := fun t => funext (ih t)
      have e0 := e1 []
      simp only [List.nil_append] at e0
      simp only [List.nil_append, List.cons_append, al_cons, al_cons_nil, e0, sh_add, sh_sh, al_snoc_nil]
      rw [Nat.add_comm p (sub c x y), Nat.add_comm p (sub c a y)]
      omega
    | cons b t ih2 =>
      intro n
      have e1 := fun t => funext (ih t)
      have e2 := e1 t
      have e3 := e1 (b :: t)
      have e4 := funext ih2
      simp only [List.cons_append] at e2 e3 e4
      simp only [List.cons_append, al_cons, e2, e3, e4, sh_add, sh_sh]
      rw [Nat.add_comm (sub c a b) (sub c x y), Nat.add_comm (sub c a b) p, Nat.add_comm p (sub c x y)]
      omega
theorem al_rev (s : List α) : ∀ t : List α, al p c s.reverse t.reverse = al p c s t := by
  induction s with
  | nil =>
    intro t
    induction t with
    | nil => rfl
    | cons y t ih => rw [List.reverse_cons, List.reverse_nil, al_nil_snoc, al_nil_cons]; rw [List.reverse_nil] at ih; rw [ih]
  | cons x s ih =>
    intro t
    induction t with
    | nil => rw [List.reverse_cons, List.reverse_nil, al_snoc_nil, al_cons_nil]; have := ih []; rw [List.reverse_nil] at this; rw [this]
    | cons y t ih2 =>
      funext n
      have h1 := ih t
      have h2 := ih (y :: t)
      rw [List.reverse_cons] at h2 ih2
      rw [List.reverse_cons, List.reverse_cons, al_snoc, h1, h2, ih2, al_cons]
theorem al_zero (s : List α) : ∀ (t : List α) (n : Nat), n < dst p c s t → al p c s t n = 0 := by
  induction s with
  | nil =>
    intro t n h
    rw [dst_nil] at h
    show (if n = p * t.length then 1 else 0) = 0
    rw [if_neg (by omega)]
  | cons x s ih =>
    intro t
    have key : ∀ (a : Nat) (f : Nat → Nat) (d n : Nat), (∀ m, m < d → f m = 0) → n < a + d → sh a f n = 0 := by
      intro a f d n hf hn
      unfold sh
      split
      · exact hf _ (by omega)
      · rfl
    induction t with
    | nil =>
      intro n h
      rw [al_cons_nil]
      rw [dst_cons_nil] at h
      exact key _ _ _ _ (ih []) h
    | cons y t ih2 =>
      intro n h
      rw [al_cons]
      rw [dst_cons] at h
      show sh _ _ n + sh _ _ n + sh _ _ n = 0
      rw [key _ _ _ _ (ih t) (by omega), key _ _ _ _ (ih (y :: t)) (by omega), key _ _ _ _ ih2 (by omega)]
theorem al_pos (s : List α) : ∀ (t : List α), 1 ≤ al p c s t (dst p c s t) := by
  induction s with
  | nil =>
    intro t
    show 1 ≤ if p * t.length = p * t.length then 1 else 0
    rw [if_pos rfl]; exact Nat.le_refl _
  | cons x s ih =>
    intro t
    induction t with
    | nil => rw [al_cons_nil, dst_cons_nil, sh_hit]; exact ih []
    | cons y t ih2 =>
      rw [al_cons, dst_cons]
      show 1 ≤ sh _ _ _ + sh _ _ _ + sh _ _ _
      have h1 := ih t
      have h2 := ih (y :: t)
      have key : ∀ (a : Nat) (f : Nat → Nat) (d n : Nat), 1 ≤ f d → n = a + d → 1 ≤ sh a f n := by
        rintro a f d n hf rfl; rw [sh_hit]; exact hf
      by_cases c1 : min (min (sub c x y + dst p c s t) (p + dst p c s (y :: t))) (p + dst p c (x :: s) t) = sub c x y + dst p c s t
      · have := key _ _ _ _ h1 c1; omega
      · by_cases c2 : min (min (sub c x y + dst p c s t) (p + dst p c s (y :: t))) (p + dst p c (x :: s) t) = p + dst p c s (y :: t)
        · have := key _ _ _ _ h2 c2; omega
        · have := key p _ _ _ ih2 (show min (min (sub c x y + dst p c s t) (p + dst p c s (y :: t))) (p + dst p c (x :: s) t) = p + dst p c (x :: s) t by omega); omega
theorem dst_rev (s t : List α) : dst p c s.reverse t.reverse = dst p c s t := by
  have key : ∀ s t : List α, ¬ dst p c s.reverse t.reverse < dst p c s t := by
    intro s t h
    have h1 := al_zero s t _ h
    rw [← al_rev] at h1
    have := al_pos (p := p) (c := c) s.reverse t.reverse
    omega
  have h1 := key s t
  have h2 := key s.reverse t.reverse
  rw [List.reverse_reverse, List.reverse_reverse] at h2
  omega
/-- how many ways there are to the distance -/
def wys (p c : Nat) (s t : List α) : Nat := al p c s t (dst p c s t)
theorem wys_rev (s t : List α) : wys p c s.reverse t.reverse = wys p c s t := by unfold wys; rw [al_rev, dst_rev]
theorem wys_pos (s t : List α) : 1 ≤ wys p c s t := al_pos s t
theorem dst_snoc_le (x : α) (s t : List α) : dst p c (s ++ [x]) (t ++ [x]) ≤ dst p c s t := by
  have h := dst_le_sub (p := p) (c := c) x x s.reverse t.reverse
  rw [sub_self, dst_rev, ← List.reverse_concat, ← List.reverse_concat, dst_rev] at h
  simpa using h

/-- of two ways on the cheaper one; of equal ones both -/
def mrg (a b : Nat × Nat) : Nat × Nat := if b.1 < a.1 then b else if b.1 = a.1 then (a.1, a.2 + b.2) else a
def add1 (k : Nat) (a : Nat × Nat) : Nat × Nat := (k + a.1, a.2)
/-- the distance and how many ways -/
def dw (p c : Nat) (s t : List α) : Nat × Nat := (dst p c s t, wys p c s t)
theorem wys_nil (t : List α) : wys p c ([] : List α) t = 1 := by
  show (if p * t.length = p * t.length then 1 else 0) = 1
  rw [if_pos rfl]
theorem dw_nil_nil : dw p c ([] : List α) [] = (0, 1) := by unfold dw; rw [wys_nil]; rfl
theorem dw_nil_cons (y : α) (t : List α) : dw p c ([] : List α) (y :: t) = add1 p (dw p c [] t) := by
  unfold dw add1; rw [dst_nil_cons, wys_nil, wys_nil]
theorem dw_cons_nil (x : α) (s : List α) : dw p c (x :: s) [] = add1 p (dw p c s []) := by
  unfold dw add1 wys; rw [al_cons_nil, dst_cons_nil, sh_hit]
theorem mrg_lt {a b x y : Nat} (h : b < a) : mrg (a, x) (b, y) = (b, y) := if_pos h
theorem mrg_eq (a x y : Nat) : mrg (a, x) (a, y) = (a, x + y) := by unfold mrg; simp
theorem mrg_gt {a b x y : Nat} (h : a < b) : mrg (a, x) (b, y) = (a, x) := by
  unfold mrg
  have h1 : ¬ b < a := by omega
  have h2 : ¬ b = a := by omega
  simp [h1, h2]
theorem mrg3 (d1 d2 d3 w1 w2 w3 : Nat) : mrg (mrg (d1, w1) (d2, w2)) (d3, w3) = (min (min d1 d2) d3, (if min (min d1 d2) d3 = d1 then w1 else 0) + (if min (min d1 d2) d3 = d2 then w2 else 0) + (if min (min d1 d2) d3 = d3 then w3 else 0)) := by
  rcases Nat.lt_trichotomy d2 d1 with h | h | h
  · rw [mrg_lt h, Nat.min_eq_right (Nat.le_of_lt h)]
    rcases Nat.lt_trichotomy d3 d2 with k | k | k
    · rw [mrg_lt k, Nat.min_eq_right (Nat.le_of_lt k), if_neg (by omega), if_neg (by omega), if_pos rfl]; simp
    · subst k
      rw [mrg_eq, Nat.min_self, if_neg (by omega), if_pos rfl, if_pos rfl]; simp
    · rw [mrg_gt k, Nat.min_eq_left (Nat.le_of_lt k), if_neg (by omega), if_pos rfl, if_neg (by omega)]; simp
  · subst h
    rw [mrg_eq, Nat.min_self]
    rcases Nat.lt_trichotomy d3 d2 with k | k | k
    · rw [mrg_lt k, Nat.min_eq_right (Nat.le_of_lt k), if_neg (by omega), if_neg (by omega), if_pos rfl]; simp
    · subst k
      rw [mrg_eq, Nat.min_self, if_pos rfl, if_pos rfl, if_pos rfl]
    · rw [mrg_gt k, Nat.min_eq_left (Nat.le_of_lt k), if_pos rfl, if_pos rfl, if_neg (by omega)]; simp
  · rw [mrg_gt h, Nat.min_eq_left (Nat.le_of_lt h)]
    rcases Nat.lt_trichotomy d3 d1 with k | k | k
    · rw [mrg_lt k, Nat.min_eq_right (Nat.le_of_lt k), if_neg (by omega), if_neg (by omega), if_pos rfl]; simp
    · subst k
      rw [mrg_eq, Nat.min_self, if_pos rfl, if_neg (by omega), if_pos rfl]; simp
    · rw [mrg_gt k, Nat.min_eq_left (Nat.le_of_lt k), if_pos rfl, if_neg (by omega), if_neg (by omega)]; simp
theorem sh_al (a : Nat) (s t : List α) {n : Nat} (h : n ≤ a + dst p c s t) : sh a (al p c s t) n = if n = a + dst p c s t then wys p c s t else 0 := by
  by_cases e : n = a + dst p c s t
  · rw [if_pos e, e, sh_hit]; rfl
  · rw [if_neg e]
    unfold sh
    split
    · exact al_zero s t _ (by omega)
    · rfl
theorem dw_cons (x y : α) (s t : List α) : dw p c (x :: s) (y :: t) = mrg (mrg (add1 (sub c x y) (dw p c s t)) (add1 p (dw p c s (y :: t)))) (add1 p (dw p c (x :: s) t)) := by
  have hd := dst_cons (p := p) (c := c) x y s t
  have hw : wys p c (x :: s) (y :: t) = sh (sub c x y) (al p c s t) (dst p c (x :: s) (y :: t)) + sh p (al p c s (y :: t)) (dst p c (x :: s) (y :: t)) + sh p (al p c (x :: s) t) (dst p c (x :: s) (y :: t)) := by
    unfold wys; rw [al_cons]
  show (dst p c (x :: s) (y :: t), wys p c (x :: s) (y :: t)) = mrg (mrg (sub c x y + dst p c s t, wys p c s t) (p + dst p c s (y :: t), wys p c s (y :: t))) (p + dst p c (x :: s) t, wys p c (x :: s) t)
  rw [mrg3, hw, sh_al _ _ _ (dst_le_sub x y s t), sh_al _ _ _ (dst_le_left x s (y :: t)), sh_al _ _ _ (dst_le_right y (x :: s) t), hd]
theorem al_self (hp : 1 ≤ p) (s : List α) : al p c s s 0 = 1 := by
  induction s with
  | nil => rfl
  | cons x s ih =>
    rw [al_cons]
    show sh _ _ 0 + sh _ _ 0 + sh _ _ 0 = 1
    rw [sub_self, sh_low (a := p) (by omega), sh_low (a := p) (by omega)]
    unfold sh
    simpa using ih
theorem wys_self (hp : 1 ≤ p) (s : List α) : wys p c s s = 1 := by unfold wys; rw [dst_self]; exact al_self hp s
/-- a bound on the ways that a machine word holds -/
theorem wys_le (s : List α) : ∀ t : List α, wys p c s t ≤ 3 ^ (s.length + t.length - 1) := by
  induction s with
  | nil => intro t; rw [wys_nil]; exact Nat.one_le_pow _ _ (by omega)
  | cons x s ih =>
    intro t
    induction t with
    | nil =>
      have h := congrArg Prod.snd (dw_cons_nil (p := p) (c := c) x s)
      have h1 := ih []
      have h2 : wys p c (x :: s) [] = wys p c s [] := h
      rw [h2]
      exact Nat.le_trans h1 (Nat.pow_le_pow_right (by omega) (by simp))
    | cons y t ih2 =>
      have h := congrArg Prod.snd (dw_cons (p := p) (c := c) x y s t)
      have key : ∀ a b : Nat × Nat, (mrg a b).2 ≤ a.2 + b.2 := by
        intro a b
        unfold mrg
        split
        · omega
        · split <;> simp
      have h2 : wys p c (x :: s) (y :: t) ≤ wys p c s t + wys p c s (y :: t) + wys p c (x :: s) t := by
        have k1 := key (mrg (add1 (sub c x y) (dw p c s t)) (add1 p (dw p c s (y :: t)))) (add1 p (dw p c (x :: s) t))
        have k2 := key (add1 (sub c x y) (dw p c s t)) (add1 p (dw p c s (y :: t)))
        rw [← h] at k1
        simp only [add1, dw] at k1 k2
        omega
      have h3 := ih t
      have h4 := ih (y :: t)
      simp only [List.length_cons] at h4 ih2 ⊢
      have e1 : 3 ^ (s.length + t.length - 1) ≤ 3 ^ (s.length + t.length) := Nat.pow_le_pow_right (by omega) (by omega)
      have e2 : s.length + (t.length + 1) - 1 = s.length + t.length := by omega
      have e3 : s.length + 1 + t.length - 1 = s.length + t.length := by omega
      have e4 : s.length + 1 + (t.length + 1) - 1 = s.length + t.length + 1 := by omega
      rw [e2] at h4
      rw [e3] at ih2
      rw [e4, Nat.pow_succ]
      omega
end
end Go.Proofs.YtmhlgnhfbickdaaDoor
