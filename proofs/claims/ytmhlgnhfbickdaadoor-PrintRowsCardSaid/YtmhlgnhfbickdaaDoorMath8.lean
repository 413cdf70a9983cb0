/-
  Plain laws: the longest common rows at a place of each print, and the first one of them. Conditions: stated at each.
-/
import Derived.Test.YtmhlgnhfbickdaaDoorP23
import Derived.Test.YtmhlgnhfbickdaaDoorMath3
namespace Go.Proofs.YtmhlgnhfbickdaaDoor
set_option linter.unusedVariables false
set_option linter.unusedSimpArgs false

/-- how long the longest common row of what is left is -/
def lcA (S T : List UInt8) (i k : Nat) : Nat := lcs (S.drop i) (T.drop k)
theorem lcA_end {S T : List UInt8} {i k : Nat} (h : S.length ≤ i ∨ T.length ≤ k) : lcA S T i k = 0 := by
  unfold lcA
  rcases h with h | h
  · rw [List.drop_of_length_le h]; rfl
  · rw [List.drop_of_length_le h]; exact lcs_nil_r _
theorem drop_cons' {S : List UInt8} {i : Nat} {x : UInt8} (h : S[i]? = some x) : S.drop i = x :: S.drop (i + 1) := by
  obtain ⟨h1, rfl⟩ := List.getElem?_eq_some_iff.1 h
  exact List.drop_eq_getElem_cons h1
theorem lcA_same {S T : List UInt8} {i k : Nat} {x : UInt8} (h1 : S[i]? = some x) (h2 : T[k]? = some x) : lcA S T i k = 1 + lcA S T (i + 1) (k + 1) := by
  unfold lcA
  rw [drop_cons' h1, drop_cons' h2, lcs_cons, if_pos rfl]
theorem lcA_other {S T : List UInt8} {i k : Nat} {x y : UInt8} (h1 : S[i]? = some x) (h2 : T[k]? = some y) (h : x ≠ y) : lcA S T i k = max (lcA S T (i + 1) k) (lcA S T i (k + 1)) := by
  unfold lcA
  rw [drop_cons' h1, drop_cons' h2, lcs_cons, if_neg h]
theorem lcs_len (s t : List UInt8) : 2 * lcs s t ≤ s.length + t.length := by
  have := dst_lcs (p := 1) (c := 2) (by omega) s t
  omega
theorem lcs_short (s t : List UInt8) : lcs s t ≤ s.length := by
  have h1 := dst_lcs (p := 1) (c := 2) (by omega) s t
  have h2 := dst_lo (p := 1) (c := 2) t s
  rw [dst_comm] at h2
  omega
theorem lcA_len (S T : List UInt8) (i k : Nat) : lcA S T i k ≤ S.length + T.length := by
  have := lcs_len (S.drop i) (T.drop k)
  unfold lcA
  simp only [List.length_drop] at this
  omega
/-- the first place of a peak from a place on -/
def nxt (S : List UInt8) (i : Nat) (x : UInt8) : Nat := i + fnd (S.drop i) x
theorem nxt_le {S : List UInt8} {i : Nat} (x : UInt8) (h : i ≤ S.length) : nxt S i x ≤ S.length := by
  have := fnd_le x (S.drop i)
  unfold nxt
  simp only [List.length_drop] at this
  omega
theorem nxt_ge (S : List UInt8) (i : Nat) (x : UInt8) : i ≤ nxt S i x := by unfold nxt; omega
theorem nxt_at {S : List UInt8} {i : Nat} {x : UInt8} (h : nxt S i x < S.length) : S[nxt S i x]? = some x := by
  have h1 : ∀ (l : List UInt8), fnd l x < l.length → l[fnd l x]? = some x := by
    intro l
    induction l with
    | nil => intro h; simp at h
    | cons y s ih =>
      unfold fnd
      by_cases e : y = x
      · intro _; rw [if_pos e, e]; rfl
      · rw [if_neg e]
        intro h
        rw [List.getElem?_cons_succ]
        exact ih (by simpa using h)
  have h2 := h1 (S.drop i) (by unfold nxt at h; simp only [List.length_drop]; omega)
  rw [List.getElem?_drop] at h2
  exact h2
theorem aft_nxt (S : List UInt8) (i : Nat) (x : UInt8) : aft (S.drop i) x = if nxt S i x < S.length then some (S.drop (nxt S i x + 1)) else none := by
  rw [aft_fnd]
  unfold nxt
  by_cases h : fnd (S.drop i) x < (S.drop i).length
  · rw [if_pos h, if_pos (by simp only [List.length_drop] at h; omega), List.drop_drop]; rfl
  · rw [if_neg h, if_neg (by simp only [List.length_drop] at h; omega)]
/-- may the common row go on by this peak, as the program tells it -/
def pickB (S T : List UInt8) (i k : Nat) (x : UInt8) : Bool := decide (nxt S i x < S.length) && (decide (nxt T k x < T.length) && decide (lcA S T (nxt S i x) (nxt T k x) = lcA S T i k))
theorem pick_at (S T : List UInt8) (i k : Nat) (x : UInt8) : isPick (S.drop i) (T.drop k) x = pickB S T i k x := by
  unfold isPick pickB
  rw [aft_nxt, aft_nxt]
  by_cases h1 : nxt S i x < S.length
  · by_cases h2 : nxt T k x < T.length
    · rw [if_pos h1, if_pos h2, decide_eq_true h1, decide_eq_true h2, Bool.true_and, Bool.true_and, lcA_same (nxt_at h1) (nxt_at h2)]
      show decide (lcA S T (nxt S i x + 1) (nxt T k x + 1) + 1 = lcA S T i k) = _
      rw [Nat.add_comm]
    · rw [if_pos h1, if_neg h2, decide_eq_false h2, Bool.false_and, Bool.and_false]
  · rw [if_neg h1, decide_eq_false h1, Bool.false_and]
/-- the first longest common row of what is left -/
def cmA (S T : List UInt8) (i k : Nat) : List UInt8 := cmn abc (S.drop i) (T.drop k)
theorem cmA_nil {S T : List UInt8} {i k : Nat} (h : lcA S T i k = 0) : cmA S T i k = [] := cmn_nil abc h
theorem find_abc {P : UInt8 → Bool} {q : Nat} (hq : q < 8) (h : P (abc.getD q 0) = true) (hn : ∀ j, j < q → P (abc.getD j 0) = false) : abc.find? P = some (abc.getD q 0) := by
  have hc : q = 0 ∨ q = 1 ∨ q = 2 ∨ q = 3 ∨ q = 4 ∨ q = 5 ∨ q = 6 ∨ q = 7 := by omega
  unfold abc at *
  rcases hc with rfl | rfl | rfl | rfl | rfl | rfl | rfl | rfl
  all_goals
    have h0 := fun h => hn 0 h
    have h1 := fun h => hn 1 h
    have h2 := fun h => hn 2 h
    have h3 := fun h => hn 3 h
    have h4 := fun h => hn 4 h
    have h5 := fun h => hn 5 h
    have h6 := fun h => hn 6 h
    simp at h0 h1 h2 h3 h4 h5 h6 h
    simp [*]
theorem cmA_step {S T : List UInt8} {i k q : Nat} (hq : q < 8) (h : pickB S T i k (abc.getD q 0) = true) (hn : ∀ j, j < q → pickB S T i k (abc.getD j 0) = false) :
    cmA S T i k = abc.getD q 0 :: cmA S T (nxt S i (abc.getD q 0) + 1) (nxt T k (abc.getD q 0) + 1) := by
  have hf : abc.find? (isPick (S.drop i) (T.drop k)) = some (abc.getD q 0) := find_abc hq (by rw [pick_at]; exact h) fun j hj => by rw [pick_at]; exact hn j hj
  have h' := h
  unfold pickB at h'
  simp only [Bool.and_eq_true, decide_eq_true_eq] at h'
  exact cmn_step abc hf (by rw [aft_nxt, if_pos h'.1]) (by rw [aft_nxt, if_pos h'.2.1])
theorem abc_has {x : UInt8} (h : x ∈ abc) : ∃ q, q < 8 ∧ abc.getD q 0 = x := by
  unfold abc at *
  simp only [List.mem_cons, List.not_mem_nil, or_false] at h
  rcases h with rfl | rfl | rfl | rfl | rfl | rfl | rfl | rfl
  · exact ⟨0, by omega, rfl⟩
  · exact ⟨1, by omega, rfl⟩
  · exact ⟨2, by omega, rfl⟩
  · exact ⟨3, by omega, rfl⟩
  · exact ⟨4, by omega, rfl⟩
  · exact ⟨5, by omega, rfl⟩
  · exact ⟨6, by omega, rfl⟩
  · exact ⟨7, by omega, rfl⟩
theorem pick_some {S T : List UInt8} {i k : Nat} (hs : ∀ x ∈ S, x ∈ abc) (h : 0 < lcA S T i k) : ∃ q, q < 8 ∧ pickB S T i k (abc.getD q 0) = true := by
  obtain ⟨x, hx⟩ := cmn_pick abc (s := S.drop i) (t := T.drop k) (fun x hx => hs x (List.mem_of_mem_drop hx)) h
  obtain ⟨q, hq, rfl⟩ := abc_has (List.mem_of_find?_eq_some hx)
  exact ⟨q, hq, by rw [← pick_at]; exact List.find?_some hx⟩
theorem cmA_is {S T : List UInt8} {i k : Nat} (hs : ∀ x ∈ S, x ∈ abc) : (cmA S T i k).length = lcA S T i k ∧ (cmA S T i k).Sublist (S.drop i) ∧ (cmA S T i k).Sublist (T.drop k) :=
  cmn_is abc _ (S.drop i) (T.drop k) (fun x hx => hs x (List.mem_of_mem_drop hx)) rfl
end Go.Proofs.YtmhlgnhfbickdaaDoor
