/-
  Plain laws of lists of edits: what they cost, the cheapest, the edits back, what far numbers prove. Conditions: stated at each.
-/
import Derived.Test.YtmhlgnhfbickdaaDoorMath1
namespace Go.Proofs.YtmhlgnhfbickdaaDoor
set_option linter.unusedVariables false
set_option linter.unusedSimpArgs false

section
variable {α : Type} [DecidableEq α]
/-- one edit: what it costs, and what is left of both -/
def stp (p c : Nat) (e : Int) (s t : List α) : Option (Nat × List α × List α) :=
  match s, t with
  | x :: s', y :: t' => if e = 1 then (if x = y then some (0, s', t') else none) else if e = 2 then (if x = y then none else some (c, s', t'))
      else if e = 3 then some (p, s', y :: t') else if e = 4 then some (p, x :: s', t') else none
  | x :: s', [] => if e = 3 then some (p, s', []) else none
  | [], y :: t' => if e = 4 then some (p, [], t') else none
  | [], [] => none
/-- what a list of edits costs; none: it is none -/
def cst (p c : Nat) : List Int → List α → List α → Option Nat
  | [], s, t => if s = [] ∧ t = [] then some 0 else none
  | e :: l, s, t => match stp p c e s t with
    | none => none
    | some (n, s', t') => (cst p c l s' t').map (n + ·)
variable {p c : Nat}
theorem stp_cases {e : Int} {s t s' t' : List α} {n : Nat} (h : stp p c e s t = some (n, s', t')) :
    (∃ x y, s = x :: s' ∧ t = y :: t' ∧ ((e = 1 ∧ x = y ∧ n = 0) ∨ (e = 2 ∧ x ≠ y ∧ n = c))) ∨ (∃ x, s = x :: s' ∧ t = t' ∧ e = 3 ∧ n = p) ∨ (∃ y, s = s' ∧ t = y :: t' ∧ e = 4 ∧ n = p) := by
  cases s with
  | nil =>
    cases t with
    | nil => cases h
    | cons y t1 =>
      unfold stp at h
      simp only at h
      by_cases e4 : e = 4
      · rw [if_pos e4] at h
        simp only [Option.some.injEq, Prod.mk.injEq] at h
        obtain ⟨rfl, rfl, rfl⟩ := h
        exact .inr (.inr ⟨y, rfl, rfl, e4, rfl⟩)
      · rw [if_neg e4] at h; cases h
  | cons x s1 =>
    cases t with
    | nil =>
      unfold stp at h
      simp only at h
      by_cases e3 : e = 3
      · rw [if_pos e3] at h
        simp only [Option.some.injEq, Prod.mk.injEq] at h
        obtain ⟨rfl, rfl, rfl⟩ := h
        exact .inr (.inl ⟨x, rfl, rfl, e3, rfl⟩)
      · rw [if_neg e3] at h; cases h
    | cons y t1 =>
      unfold stp at h
      simp only at h
      by_cases e1 : e = 1
      · rw [if_pos e1] at h
        by_cases exy : x = y
        · rw [if_pos exy] at h
          simp only [Option.some.injEq, Prod.mk.injEq] at h
          obtain ⟨rfl, rfl, rfl⟩ := h
          exact .inl ⟨x, y, rfl, rfl, .inl ⟨e1, exy, rfl⟩⟩
        · rw [if_neg exy] at h; cases h
      · rw [if_neg e1] at h
        by_cases e2 : e = 2
        · rw [if_pos e2] at h
          by_cases exy : x = y
          · rw [if_pos exy] at h; cases h
          · rw [if_neg exy] at h
            simp only [Option.some.injEq, Prod.mk.injEq] at h
            obtain ⟨rfl, rfl, rfl⟩ := h
            exact .inl ⟨x, y, rfl, rfl, .inr ⟨e2, exy, rfl⟩⟩
        · rw [if_neg e2] at h
          by_cases e3 : e = 3
          · rw [if_pos e3] at h
            simp only [Option.some.injEq, Prod.mk.injEq] at h
            obtain ⟨rfl, rfl, rfl⟩ := h
            exact .inr (.inl ⟨x, rfl, rfl, e3, rfl⟩)
          · rw [if_neg e3] at h
            by_cases e4 : e = 4
            · rw [if_pos e4] at h
              simp only [Option.some.injEq, Prod.mk.injEq] at h
              obtain ⟨rfl, rfl, rfl⟩ := h
              exact .inr (.inr ⟨y, rfl, rfl, e4, rfl⟩)
            · rw [if_neg e4] at h; cases h
theorem stp_ge {e : Int} {s t s' t' : List α} {n : Nat} (h : stp p c e s t = some (n, s', t')) : dst p c s t ≤ n + dst p c s' t' := by
  rcases stp_cases h with ⟨x, y, rfl, rfl, ⟨_, h2, rfl⟩ | ⟨_, h2, rfl⟩⟩ | ⟨x, rfl, rfl, _, rfl⟩ | ⟨y, rfl, rfl, _, rfl⟩
  · have := dst_le_sub (p := p) (c := c) x y s' t'
    have h3 : sub c x y = 0 := if_pos h2
    omega
  · have := dst_le_sub (p := p) (c := n) x y s' t'
    have h3 := sub_le (c := n) x y
    omega
  · exact dst_le_left _ _ _
  · exact dst_le_right _ _ _
theorem cst_ge (l : List Int) : ∀ (s t : List α) (n : Nat), cst p c l s t = some n → dst p c s t ≤ n := by
  induction l with
  | nil =>
    intro s t n h
    unfold cst at h
    by_cases e : s = [] ∧ t = []
    · rw [e.1, e.2, dst_nil_nil]; omega
    · rw [if_neg e] at h; cases h
  | cons e l ih =>
    intro s t n h
    unfold cst at h
    cases hs : stp p c e s t with
    | none => rw [hs] at h; cases h
    | some r =>
      obtain ⟨k, s', t'⟩ := r
      rw [hs] at h
      simp only at h
      cases h2 : cst p c l s' t' with
      | none => rw [h2] at h; cases h
      | some m =>
        rw [h2] at h
        simp only [Option.map_some, Option.some.injEq] at h
        have := ih s' t' m h2
        have := stp_ge hs
        omega
/-- is a step on a cheapest way -/
def isBest (p c : Nat) (e : Int) (s t : List α) : Bool := match stp p c e s t with
  | none => false
  | some (n, s', t') => decide (n + dst p c s' t' = dst p c s t)
theorem isBest_some {e : Int} {s t : List α} (h : isBest p c e s t = true) : ∃ n s' t', stp p c e s t = some (n, s', t') ∧ n + dst p c s' t' = dst p c s t := by
  unfold isBest at h
  cases hs : stp p c e s t with
  | none => rw [hs] at h; cases h
  | some r => obtain ⟨n, s', t'⟩ := r; rw [hs] at h; exact ⟨n, s', t', rfl, by simpa using h⟩
theorem stp_short {e : Int} {s t s' t' : List α} {n : Nat} (h : stp p c e s t = some (n, s', t')) : s'.length + t'.length < s.length + t.length ∧ s'.length ≤ s.length ∧ t'.length ≤ t.length := by
  rcases stp_cases h with ⟨x, y, rfl, rfl, _⟩ | ⟨x, rfl, rfl, _⟩ | ⟨y, rfl, rfl, _⟩ <;> simp <;> omega
/-- the first best edit -/
def bestE (p c : Nat) (s t : List α) : Int := if isBest p c 1 s t then 1 else if isBest p c 2 s t then 2 else if isBest p c 3 s t then 3 else 4
theorem bestE_best {s t : List α} (h : ¬ (s = [] ∧ t = [])) : isBest p c (bestE p c s t) s t = true := by
  unfold bestE
  cases h1 : isBest p c 1 s t
  · rw [if_neg (by simp)]
    cases h2 : isBest p c 2 s t
    · rw [if_neg (by simp)]
      cases h3 : isBest p c 3 s t
      · rw [if_neg (by simp)]
        cases s with
        | nil =>
          cases t with
          | nil => exact absurd ⟨rfl, rfl⟩ h
          | cons y t => simp [isBest, stp, dst_nil_cons]
        | cons x s =>
          cases t with
          | nil => simp [isBest, stp, dst_cons_nil] at h3
          | cons y t =>
            simp only [isBest, stp, if_pos, reduceIte] at h1 h2 h3 ⊢
            have hd := dst_cons (p := p) (c := c) x y s t
            by_cases e : x = y
            · have e2 : sub c x y = 0 := if_pos e
              simp [e] at h1 h2 h3 ⊢
              subst e
              omega
            · have e2 : sub c x y = c := if_neg e
              simp [e] at h1 h2 h3 ⊢
              omega
      · rw [if_pos rfl, h3]
    · rw [if_pos rfl, h2]
  · rw [if_pos rfl, h1]
/-- the cheapest edits that come first -/
def edF (p c : Nat) : Nat → List α → List α → List Int
  | 0, _, _ => []
  | n + 1, s, t => if s = [] ∧ t = [] then [] else match stp p c (bestE p c s t) s t with
    | none => []
    | some (_, s', t') => bestE p c s t :: edF p c n s' t'
theorem edF_cst (n : Nat) : ∀ s t : List α, s.length + t.length ≤ n → cst p c (edF p c n s t) s t = some (dst p c s t) ∧ (edF p c n s t).length ≤ n := by
  induction n with
  | zero =>
    intro s t h
    have h1 : s = [] := List.eq_nil_of_length_eq_zero (by omega)
    have h2 : t = [] := List.eq_nil_of_length_eq_zero (by omega)
    subst h1 h2
    exact ⟨rfl, Nat.le_refl _⟩
  | succ n ih =>
    intro s t h
    unfold edF
    by_cases e : s = [] ∧ t = []
    · rw [if_pos e]
      obtain ⟨rfl, rfl⟩ := e
      exact ⟨rfl, Nat.zero_le _⟩
    · rw [if_neg e]
      obtain ⟨k, s', t', hs, hd⟩ := isBest_some (bestE_best (p := p) (c := c) e)
      have hl := stp_short hs
      obtain ⟨i1, i2⟩ := ih s' t' (by omega)
      rw [hs]
      refine ⟨?_, by simp only [List.length_cons]; omega⟩
      show cst p c (bestE p c s t :: edF p c n s' t') s t = _
      unfold cst
      rw [hs]
      simp only [i1, Option.map_some, hd]
theorem edF_more (n : Nat) : ∀ (m : Nat) (s t : List α), s.length + t.length ≤ n → n ≤ m → edF p c n s t = edF p c m s t := by
  induction n with
  | zero =>
    intro m s t h _
    have h1 : s = [] := List.eq_nil_of_length_eq_zero (by omega)
    have h2 : t = [] := List.eq_nil_of_length_eq_zero (by omega)
    subst h1 h2
    cases m with
    | zero => rfl
    | succ m => rfl
  | succ n ih =>
    intro m s t h hm
    cases m with
    | zero => omega
    | succ m =>
      unfold edF
      by_cases e : s = [] ∧ t = []
      · rw [if_pos e, if_pos e]
      · rw [if_neg e, if_neg e]
        obtain ⟨k, s', t', hs, hd⟩ := isBest_some (bestE_best (p := p) (c := c) e)
        rw [hs]
        have hl := stp_short hs
        simp only [ih m s' t' (by omega) (by omega)]
def edt (p c : Nat) (s t : List α) : List Int := edF p c (s.length + t.length) s t
theorem edt_cst (s t : List α) : cst p c (edt p c s t) s t = some (dst p c s t) := (edF_cst _ s t (Nat.le_refl _)).1
theorem edt_len (s t : List α) : (edt p c s t).length ≤ s.length + t.length := (edF_cst _ s t (Nat.le_refl _)).2
theorem edt_nil : edt p c ([] : List α) [] = [] := rfl
theorem edt_step {s t : List α} (h : ¬ (s = [] ∧ t = [])) {n : Nat} {s' t' : List α} (hs : stp p c (bestE p c s t) s t = some (n, s', t')) : edt p c s t = bestE p c s t :: edt p c s' t' := by
  have hl := stp_short hs
  unfold edt
  obtain ⟨m, hm⟩ : ∃ m, s.length + t.length = m + 1 := ⟨s.length + t.length - 1, by omega⟩
  rw [hm]
  show (if s = [] ∧ t = [] then [] else match stp p c (bestE p c s t) s t with
    | none => []
    | some (_, s', t') => bestE p c s t :: edF p c m s' t') = _
  rw [if_neg h, hs]
  simp only
  rw [edF_more _ m s' t' (Nat.le_refl _) (by omega)]

/-- an edit back -/
def bkE (e : Int) : Int := if e = 3 then 4 else if e = 4 then 3 else e
theorem bkE_bkE (e : Int) : bkE (bkE e) = e := by
  unfold bkE
  by_cases h3 : e = 3
  · subst h3; rfl
  · by_cases h4 : e = 4
    · subst h4; rfl
    · rw [if_neg h3, if_neg h4, if_neg h3, if_neg h4]
theorem stp_bk (e : Int) (s t : List α) : stp p c (bkE e) t s = (stp p c e s t).map fun r => (r.1, r.2.2, r.2.1) := by
  by_cases h3 : e = 3
  · subst h3; cases s <;> cases t <;> simp [stp, bkE]
  · by_cases h4 : e = 4
    · subst h4; cases s <;> cases t <;> simp [stp, bkE]
    · have hb : bkE e = e := by unfold bkE; rw [if_neg h3, if_neg h4]
      rw [hb]
      cases s with
      | nil => cases t <;> simp [stp, h3, h4]
      | cons x s =>
        cases t with
        | nil => simp [stp, h3, h4]
        | cons y t =>
          simp only [stp, if_neg h3, if_neg h4]
          by_cases e1 : e = 1
          · rw [if_pos e1, if_pos e1]
            by_cases exy : x = y
            · subst exy; simp
            · rw [if_neg exy, if_neg (Ne.symm exy)]; rfl
          · rw [if_neg e1, if_neg e1]
            by_cases e2 : e = 2
            · rw [if_pos e2, if_pos e2]
              by_cases exy : x = y
              · subst exy; simp
              · rw [if_neg exy, if_neg (Ne.symm exy)]; rfl
            · rw [if_neg e2, if_neg e2]; rfl
theorem cst_bk (l : List Int) : ∀ s t : List α, cst p c (l.map bkE) t s = cst p c l s t := by
  induction l with
  | nil =>
    intro s t
    show (if t = [] ∧ s = [] then some 0 else none) = if s = [] ∧ t = [] then some 0 else none
    by_cases h : s = [] ∧ t = []
    · rw [if_pos h, if_pos ⟨h.2, h.1⟩]
    · rw [if_neg h, if_neg (fun h' => h ⟨h'.2, h'.1⟩)]
  | cons e l ih =>
    intro s t
    rw [List.map_cons]
    unfold cst
    rw [stp_bk]
    cases stp p c e s t with
    | none => rfl
    | some r => obtain ⟨n, s', t'⟩ := r; simp only [Option.map_some, ih]
/-- whether a list are edits does not lean on what they cost -/
theorem cst_some {p' c' : Nat} (l : List Int) : ∀ s t : List α, (cst p c l s t).isSome = (cst p' c' l s t).isSome := by
  induction l with
  | nil => intro s t; unfold cst; split <;> rfl
  | cons e l ih =>
    intro s t
    have key : (stp p c e s t).map (fun r => r.2) = (stp p' c' e s t).map (fun r => r.2) := by
      cases s with
      | nil => cases t <;> simp only [stp] <;> (try split) <;> rfl
      | cons x s =>
        cases t with
        | nil => simp only [stp]; split <;> rfl
        | cons y t => simp only [stp]; repeat (first | rfl | split)
    unfold cst
    cases h1 : stp p c e s t with
    | none =>
      rw [h1] at key
      cases h2 : stp p' c' e s t with
      | none => rfl
      | some r => rw [h2] at key; cases key
    | some r =>
      rw [h1] at key
      cases h2 : stp p' c' e s t with
      | none => rw [h2] at key; cases key
      | some r' =>
        rw [h2] at key
        obtain ⟨n, s1, t1⟩ := r
        obtain ⟨n', s2, t2⟩ := r'
        simp only [Option.map_some, Option.some.injEq, Prod.mk.injEq] at key
        obtain ⟨rfl, rfl⟩ := key
        simp only [Option.isSome_map]
        exact ih s1 t1

/-! ### far numbers -/
/-- far numbers obey each step -/
def Obeys (p c : Nat) (s t : List α) (far : Nat → Nat → Int) : Prop :=
  ∀ i k, (∀ x y, s[i]? = some x → t[k]? = some y → far (i + 1) (k + 1) ≤ far i k + (sub c x y : Nat)) ∧ (i < s.length → k ≤ t.length → far (i + 1) k ≤ far i k + (p : Nat)) ∧ (k < t.length → i ≤ s.length → far i (k + 1) ≤ far i k + (p : Nat))
theorem obeys_le {s t : List α} {far : Nat → Nat → Int} (h : Obeys p c s t far) (n : Nat) : ∀ i k, i ≤ s.length → k ≤ t.length → s.length - i + (t.length - k) ≤ n → far s.length t.length ≤ far i k + (dst p c (s.drop i) (t.drop k) : Nat) := by
  induction n with
  | zero =>
    intro i k hi hk hn
    have e1 : i = s.length := by omega
    have e2 : k = t.length := by omega
    subst e1 e2
    omega
  | succ n ih =>
    intro i k hi hk hn
    obtain ⟨h1, h2, h3⟩ := h i k
    by_cases li : i < s.length
    · have ei : s.drop i = s[i] :: s.drop (i + 1) := List.drop_eq_getElem_cons li
      have j2 := ih (i + 1) k (by omega) hk (by omega)
      by_cases lk : k < t.length
      · have ek : t.drop k = t[k] :: t.drop (k + 1) := List.drop_eq_getElem_cons lk
        have j1 := ih (i + 1) (k + 1) (by omega) (by omega) (by omega)
        have j3 := ih i (k + 1) hi (by omega) (by omega)
        have g1 := h1 s[i] t[k] (by simp) (by simp)
        have g2 := h2 li hk
        have g3 := h3 lk hi
        have hd := dst_cons (p := p) (c := c) s[i] t[k] (s.drop (i + 1)) (t.drop (k + 1))
        rw [ek] at j2
        rw [ei] at j3
        rw [ei, ek]
        omega
      · have ek : k = t.length := by omega
        subst ek
        have g2 := h2 li hk
        rw [List.drop_length] at j2 ⊢
        rw [ei, dst_cons_nil]
        omega
    · have ei : i = s.length := by omega
      subst ei
      rcases Nat.lt_or_ge k t.length with lk | lk
      case inr =>
        have : k = t.length := by omega
        subst this
        omega
      have ek : t.drop k = t[k] :: t.drop (k + 1) := List.drop_eq_getElem_cons lk
      have j3 := ih s.length (k + 1) hi (by omega) (by omega)
      have g3 := h3 lk hi
      rw [List.drop_length] at j3 ⊢
      rw [ek, dst_nil_cons]
      omega
/-- far numbers prove no more than the distance -/
theorem obeys_dst {s t : List α} {far : Nat → Nat → Int} (h : Obeys p c s t far) (h0 : far 0 0 = 0) : far s.length t.length ≤ (dst p c s t : Nat) := by
  have := obeys_le h _ 0 0 (Nat.zero_le _) (Nat.zero_le _) (Nat.le_refl _)
  rw [h0] at this
  simpa using this
/-- the greatest far numbers -/
def farN (p c : Nat) (s t : List α) (i k : Nat) : Int := (dst p c (s.take i) (t.take k) : Nat)
theorem farN_obeys (s t : List α) : Obeys p c s t (farN p c s t) := by
  have rv : ∀ a b : List α, dst p c a b = dst p c a.reverse b.reverse := fun a b => (dst_rev a b).symm
  intro i k
  unfold farN
  refine ⟨fun x y hx hy => ?_, fun hi hk => ?_, fun hk hi => ?_⟩
  · have e1 : s.take (i + 1) = s.take i ++ [x] := by rw [List.take_add_one, hx]; rfl
    have e2 : t.take (k + 1) = t.take k ++ [y] := by rw [List.take_add_one, hy]; rfl
    rw [e1, e2, rv (s.take i ++ [x]), rv (s.take i), List.reverse_concat, List.reverse_concat]
    have := dst_le_sub (p := p) (c := c) x y (s.take i).reverse (t.take k).reverse
    omega
  · have e1 : s.take (i + 1) = s.take i ++ [s[i]] := by rw [List.take_succ_eq_append_getElem hi]
    rw [e1, rv (s.take i ++ [s[i]]), rv (s.take i), List.reverse_concat]
    have := dst_le_left (p := p) (c := c) s[i] (s.take i).reverse (t.take k).reverse
    omega
  · have e1 : t.take (k + 1) = t.take k ++ [t[k]] := by rw [List.take_succ_eq_append_getElem hk]
    rw [e1, rv _ (t.take k ++ [t[k]]), rv _ (t.take k), List.reverse_concat]
    have := dst_le_right (p := p) (c := c) t[k] (s.take i).reverse (t.take k).reverse
    omega
theorem farN_zero (s t : List α) : farN p c s t 0 0 = 0 := rfl
theorem farN_end (s t : List α) : farN p c s t s.length t.length = (dst p c s t : Nat) := by unfold farN; rw [List.take_length, List.take_length]
/-- .. as the program reckons them: of the lists the other way round -/
theorem farN_rev (s t : List α) (i k : Nat) (hi : i ≤ s.length) (hk : k ≤ t.length) : dst p c (s.reverse.drop (s.length - i)) (t.reverse.drop (t.length - k)) = dst p c (s.take i) (t.take k) := by
  rw [List.drop_reverse, List.drop_reverse, dst_rev]
  congr 2 <;> omega
end
end Go.Proofs.YtmhlgnhfbickdaaDoor
