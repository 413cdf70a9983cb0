/-
  Plain laws: what far numbers prove, as the program tells it. Conditions: stated at each.
-/
import Derived.Test.YtmhlgnhfbickdaaDoorMath4
namespace Go.Proofs.YtmhlgnhfbickdaaDoor
set_option linter.unusedVariables false
set_option linter.unusedSimpArgs false
open Go.RowKit Go.Shelf

/-- some step from a place on is not obeyed -/
def badS (S T : List UInt8) (p c : Int) (f : Nat → Nat → Int) (i k : Nat) (y : St) : Bool := decide (f i k + y.2.2.2 < f y.2.1.toNat y.2.2.1.toNat)
def badAt (S T : List UInt8) (p c : Int) (f : Nat → Nat → Int) (i k : Nat) : Bool := (stepsL S T p c i k).any (badS S T p c f i k)
def obeyB (S T : List UInt8) (p c : Int) (f : Nat → Nat → Int) : Bool := !anyB (S.length + 1) fun i => anyB (T.length + 1) fun k => badAt S T p c f i k
/-- a table of the right form, its numbers in range -/
def tabB (ns nt n : Nat) (m : Nat → Nat) (f : Nat → Nat → Int) : Bool := decide (n = ns + 1) && !anyB n fun i => !decide (m i = nt + 1) || anyB (m i) fun k => !btw 0 (f i k) 1000
def provB (S T : List UInt8) (p c : Int) (f : Nat → Nat → Int) (n : Int) : Bool := obeyB S T p c f && (f 0 0 == 0 && decide (n ≤ f S.length T.length))
theorem tabB_true {ns nt n : Nat} {m : Nat → Nat} {f : Nat → Nat → Int} (h : tabB ns nt n m f = true) : n = ns + 1 ∧ ∀ i, i ≤ ns → m i = nt + 1 ∧ ∀ k, k ≤ nt → 0 ≤ f i k ∧ f i k ≤ 1000 := by
  unfold tabB at h
  rw [Bool.and_eq_true, decide_eq_true_iff, Bool.not_eq_true', anyB_false] at h
  obtain ⟨h1, h2⟩ := h
  refine ⟨h1, fun i hi => ?_⟩
  have h3 := h2 i (by omega)
  rw [Bool.or_eq_false_iff, Bool.not_eq_false', decide_eq_true_iff, anyB_false] at h3
  refine ⟨h3.1, fun k hk => ?_⟩
  have h4 := h3.2 k (by omega)
  rw [Bool.not_eq_false', btw_iff] at h4
  exact h4
theorem obeyB_iff {S T : List UInt8} {p c : Nat} {f : Nat → Nat → Int} : obeyB S T (p : Int) (c : Int) f = true ↔
    ∀ i k, i ≤ S.length → k ≤ T.length → ∀ e, 1 ≤ e → e ≤ 4 → okS S T i k e = true → f (i + diS e) (k + dkS e) ≤ f i k + (coN p c e : Nat) := by
  unfold obeyB
  rw [Bool.not_eq_true', anyB_false]
  constructor
  · intro h i k hi hk e h1 h2 hok
    have h3 := anyB_false.1 (h i (by omega)) k (by omega)
    unfold badAt at h3
    rw [List.any_eq_false] at h3
    have h4 := h3 _ (steps_has (p := p) (c := c) ⟨h1, h2⟩ hok)
    unfold badS at h4
    simp only [Int.toNat_natCast, decide_eq_true_eq] at h4
    omega
  · intro h i hi
    rw [anyB_false]
    intro k hk
    unfold badAt
    rw [List.any_eq_false]
    intro y hy
    obtain ⟨e, he, hok, rfl⟩ := steps_of hy
    have h4 := h i k (by omega) (by omega) e he.1 he.2 hok
    unfold badS
    simp only [Int.toNat_natCast, decide_eq_true_eq]
    omega
theorem obeys_of {S T : List UInt8} {p c : Nat} {f : Nat → Nat → Int} (h : obeyB S T (p : Int) (c : Int) f = true) : ∀ i k, i ≤ S.length → k ≤ T.length →
    (∀ x y, S[i]? = some x → T[k]? = some y → f (i + 1) (k + 1) ≤ f i k + (sub c x y : Nat)) ∧ (i < S.length → f (i + 1) k ≤ f i k + (p : Nat)) ∧ (k < T.length → f i (k + 1) ≤ f i k + (p : Nat)) := by
  rw [obeyB_iff] at h
  intro i k hi hk
  refine ⟨fun x y hx hy => ?_, fun hi' => ?_, fun hk' => ?_⟩
  · have li := (List.getElem?_eq_some_iff.1 hx).1
    have lk := (List.getElem?_eq_some_iff.1 hy).1
    by_cases e : x = y
    · have := h i k hi hk 1 (by omega) (by omega) (by unfold okS; rw [decide_eq_true li, decide_eq_true lk, decide_eq_true (by rw [hx, hy, e])]; rfl)
      simpa [diS, dkS, coN, sub, e] using this
    · have := h i k hi hk 2 (by omega) (by omega) (by unfold okS; rw [decide_eq_true li, decide_eq_true lk, decide_eq_false (by rw [hx, hy]; exact fun h3 => e (by injection h3))]; rfl)
      simpa [diS, dkS, coN, sub, e] using this
  · have := h i k hi hk 3 (by omega) (by omega) (by unfold okS; simp [hi'])
    simpa [diS, dkS, coN] using this
  · have := h i k hi hk 4 (by omega) (by omega) (by unfold okS; simp [hk'])
    simpa [diS, dkS, coN] using this
theorem obeys_le2 {S T : List UInt8} {p c : Nat} {f : Nat → Nat → Int} (h : ∀ i k, i ≤ S.length → k ≤ T.length →
    (∀ x y, S[i]? = some x → T[k]? = some y → f (i + 1) (k + 1) ≤ f i k + (sub c x y : Nat)) ∧ (i < S.length → f (i + 1) k ≤ f i k + (p : Nat)) ∧ (k < T.length → f i (k + 1) ≤ f i k + (p : Nat)))
    (n : Nat) : ∀ i k, i ≤ S.length → k ≤ T.length → S.length - i + (T.length - k) ≤ n → f S.length T.length ≤ f i k + (dst p c (S.drop i) (T.drop k) : Nat) := by
  induction n with
  | zero =>
    intro i k hi hk hn
    have e1 : i = S.length := by omega
    have e2 : k = T.length := by omega
    subst e1 e2
    omega
  | succ n ih =>
    intro i k hi hk hn
    obtain ⟨h1, h2, h3⟩ := h i k hi hk
    by_cases li : i < S.length
    · have ei : S.drop i = S[i] :: S.drop (i + 1) := List.drop_eq_getElem_cons li
      have j2 := ih (i + 1) k (by omega) hk (by omega)
      by_cases lk : k < T.length
      · have ek : T.drop k = T[k] :: T.drop (k + 1) := List.drop_eq_getElem_cons lk
        have j1 := ih (i + 1) (k + 1) (by omega) (by omega) (by omega)
        have j3 := ih i (k + 1) hi (by omega) (by omega)
        have g1 := h1 S[i] T[k] (by simp) (by simp)
        have g2 := h2 li
        have g3 := h3 lk
        have hd := dst_cons (p := p) (c := c) S[i] T[k] (S.drop (i + 1)) (T.drop (k + 1))
        rw [ek] at j2
        rw [ei] at j3
        rw [ei, ek]
        omega
      · have ek : k = T.length := by omega
        subst ek
        have g2 := h2 li
        rw [List.drop_length] at j2 ⊢
        rw [ei, dst_cons_nil]
        omega
    · have ei : i = S.length := by omega
      subst ei
      rcases Nat.lt_or_ge k T.length with lk | lk
      case inr =>
        have : k = T.length := by omega
        subst this
        omega
      have ek : T.drop k = T[k] :: T.drop (k + 1) := List.drop_eq_getElem_cons lk
      have j3 := ih S.length (k + 1) hi (by omega) (by omega)
      have g3 := h3 lk
      rw [List.drop_length] at j3 ⊢
      rw [ek, dst_nil_cons]
      omega
/-- far numbers that are obeyed prove no more than the distance -/
theorem prov_le {S T : List UInt8} {p c : Nat} {f : Nat → Nat → Int} {n : Int} (h : provB S T (p : Int) (c : Int) f n = true) : n ≤ (dst p c S T : Nat) := by
  unfold provB at h
  rw [Bool.and_eq_true, Bool.and_eq_true, beq_iff_eq, decide_eq_true_iff] at h
  obtain ⟨h1, h2, h3⟩ := h
  have h4 := obeys_of h1
  have hO : ∀ i k, i ≤ S.length → k ≤ T.length → S.length - i + (T.length - k) ≤ S.length + T.length → f S.length T.length ≤ f i k + (dst p c (S.drop i) (T.drop k) : Nat) := by
    intro i k hi hk hn
    exact obeys_le2 h4 _ i k hi hk hn
  have := hO 0 0 (Nat.zero_le _) (Nat.zero_le _) (by omega)
  rw [h2] at this
  simp only [List.drop_zero] at this
  omega
theorem prov_far (S T : List UInt8) (p c : Nat) {n : Int} : provB S T (p : Int) (c : Int) (farN p c S T) n = decide (n ≤ (dst p c S T : Nat)) := by
  have h1 : obeyB S T (p : Int) (c : Int) (farN p c S T) = true := by
    rw [obeyB_iff]
    intro i k hi hk e h1 h2 hok
    obtain ⟨o1, o2, o3⟩ := farN_obeys (p := p) (c := c) S T i k
    have hcases : e = 1 ∨ e = 2 ∨ e = 3 ∨ e = 4 := by omega
    unfold okS at hok
    rcases hcases with rfl | rfl | rfl | rfl
    · simp only [Bool.and_eq_true, decide_eq_true_eq] at hok
      obtain ⟨a, b, hq⟩ := hok
      have := o1 S[i] T[k] (by simp) (by simp)
      rw [List.getElem?_eq_getElem a, List.getElem?_eq_getElem b] at hq
      have e : S[i] = T[k] := by injection hq
      unfold sub at this
      rw [if_pos e] at this
      exact this
    · simp only [Bool.and_eq_true, decide_eq_true_eq, Bool.not_eq_true', decide_eq_false_iff_not] at hok
      obtain ⟨a, b, hq⟩ := hok
      have := o1 S[i] T[k] (by simp) (by simp)
      have := sub_le (c := c) S[i] T[k]
      show farN p c S T (i + 1) (k + 1) ≤ _ + ((c : Nat) : Int)
      omega
    · simp only [decide_eq_true_eq] at hok
      exact o2 hok hk
    · simp only [decide_eq_true_eq] at hok
      exact o3 hok hi
  unfold provB
  rw [h1, farN_zero, farN_end]
  rfl
end Go.Proofs.YtmhlgnhfbickdaaDoor
