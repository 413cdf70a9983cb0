/-
  Plain laws: one edit at a place of each print, and which edits the program's steps are. Conditions: stated at each.
-/
import Derived.Test.YtmhlgnhfbickdaaDoorP8
import Derived.Test.YtmhlgnhfbickdaaDoorMath3
namespace Go.Proofs.YtmhlgnhfbickdaaDoor
set_option linter.unusedVariables false
set_option linter.unusedSimpArgs false
open Go.RowKit Go.Shelf

theorem stp_none {α : Type} [DecidableEq α] {p c : Nat} {e : Int} (h : ¬ (1 ≤ e ∧ e ≤ 4)) (s t : List α) : stp p c e s t = none := by
  have h1 : ¬ e = 1 := by omega
  have h2 : ¬ e = 2 := by omega
  have h3 : ¬ e = 3 := by omega
  have h4 : ¬ e = 4 := by omega
  cases s <;> cases t <;> simp [stp, h1, h2, h3, h4]
theorem stp_at (S T : List UInt8) (p c i k e : Nat) (he : 1 ≤ e ∧ e ≤ 4) : stp p c (e : Int) (S.drop i) (T.drop k) = if okS S T i k e then some (coN p c e, S.drop (i + diS e), T.drop (k + dkS e)) else none := by
  have hcases : e = 1 ∨ e = 2 ∨ e = 3 ∨ e = 4 := by omega
  by_cases hi : i < S.length
  · have di := List.drop_eq_getElem_cons hi
    have gi := List.getElem?_eq_getElem hi
    by_cases hk : k < T.length
    · have dk := List.drop_eq_getElem_cons hk
      have gk := List.getElem?_eq_getElem hk
      generalize S[i] = x at di gi
      generalize T[k] = y at dk gk
      by_cases he : x = y
      · rcases hcases with rfl | rfl | rfl | rfl <;> simp only [okS, coN, diS, dkS, gi, gk, Nat.add_zero] <;> rw [di, dk] <;> simp [stp, hi, hk, he]
      · rcases hcases with rfl | rfl | rfl | rfl <;> simp only [okS, coN, diS, dkS, gi, gk, Nat.add_zero] <;> rw [di, dk] <;> simp [stp, hi, hk, he]
    · have dk : T.drop k = [] := List.drop_of_length_le (Nat.le_of_not_lt hk)
      have dk1 : T.drop (k + 1) = [] := List.drop_of_length_le (by omega)
      generalize S[i] = x at di gi
      rcases hcases with rfl | rfl | rfl | rfl <;> simp only [okS, coN, diS, dkS, dk, dk1, Nat.add_zero] <;> rw [di] <;> simp [stp, hi, hk]
  · have di : S.drop i = [] := List.drop_of_length_le (Nat.le_of_not_lt hi)
    have di1 : S.drop (i + 1) = [] := List.drop_of_length_le (by omega)
    by_cases hk : k < T.length
    · have dk := List.drop_eq_getElem_cons hk
      have gk := List.getElem?_eq_getElem hk
      generalize T[k] = y at dk gk
      rcases hcases with rfl | rfl | rfl | rfl <;> simp only [okS, coN, diS, dkS, di, di1, Nat.add_zero] <;> rw [dk] <;> simp [stp, hi, hk]
    · have dk : T.drop k = [] := List.drop_of_length_le (Nat.le_of_not_lt hk)
      have dk1 : T.drop (k + 1) = [] := List.drop_of_length_le (by omega)
      rcases hcases with rfl | rfl | rfl | rfl <;> simp only [okS, coN, diS, dkS, di, di1, dk, dk1, Nat.add_zero] <;> simp [stp, hi, hk]
/-- the steps, told by their edits -/
theorem steps_of {S T : List UInt8} {p c i k : Nat} {x : St} (h : x ∈ stepsL S T (p : Int) (c : Int) i k) :
    ∃ e, (1 ≤ e ∧ e ≤ 4) ∧ okS S T i k e = true ∧ x = ((e : Int), ((i + diS e : Nat) : Int), ((k + dkS e : Nat) : Int), (coN p c e : Int)) := by
  rw [stepsL_upto] at h
  unfold uptoS at h
  obtain ⟨e, he, hx⟩ := List.mem_flatMap.1 h
  have he4 := List.mem_range.1 he
  unfold seg at hx
  split at hx
  · rename_i hok
    obtain rfl := List.mem_singleton.1 hx
    exact ⟨e + 1, by omega, hok, by rw [coS_N]⟩
  · cases hx
theorem steps_has {S T : List UInt8} {p c i k e : Nat} (he : 1 ≤ e ∧ e ≤ 4) (h : okS S T i k e = true) :
    (((e : Int), ((i + diS e : Nat) : Int), ((k + dkS e : Nat) : Int), (coN p c e : Int)) : St) ∈ stepsL S T (p : Int) (c : Int) i k := by
  rw [stepsL_upto]
  unfold uptoS
  refine List.mem_flatMap.2 ⟨e - 1, List.mem_range.2 (by omega), ?_⟩
  rw [show e - 1 + 1 = e by omega]
  unfold seg
  rw [if_pos h, coS_N]
  exact List.mem_singleton.2 rfl
/-- steps come with rising edits -/
theorem steps_sorted (S T : List UInt8) (p c : Int) (i k : Nat) : (stepsL S T p c i k).Pairwise fun x y => x.1 < y.1 := by
  unfold stepsL
  by_cases h1 : i < S.length <;> by_cases h2 : k < T.length <;> by_cases h3 : S[i]? = T[k]? <;> simp only [h1, h2, and_self, and_true, true_and, and_false, if_true, if_false] <;> (first | rw [if_pos h3] | rw [if_neg h3] | skip) <;> simp
/-- is a step on a cheapest way -/
def bestS (s t : ByteArray) (p c i k : Nat) (x : St) : Bool := decide ((val s t p c x.2.1.toNat x.2.2.1.toNat).1 + x.2.2.2.toNat = (val s t p c i k).1)
theorem best_at {s t : ByteArray} {p c i k e : Nat} (he : 1 ≤ e ∧ e ≤ 4) : isBest p c (e : Int) (s.data.toList.drop i) (t.data.toList.drop k) =
    (okS s.data.toList t.data.toList i k e && bestS s t p c i k ((e : Int), ((i + diS e : Nat) : Int), ((k + dkS e : Nat) : Int), (coN p c e : Int))) := by
  unfold isBest
  rw [stp_at _ _ _ _ _ _ _ he]
  cases okS s.data.toList t.data.toList i k e
  · rfl
  · rw [if_pos rfl]
    simp only [Bool.true_and]
    unfold bestS
    simp only [Int.toNat_natCast]
    rw [Nat.add_comm]
    rfl
def edAt (s t : ByteArray) (p c i k : Nat) : List Int := edt p c (s.data.toList.drop i) (t.data.toList.drop k)
theorem edAt_end (s t : ByteArray) (p c : Nat) : edAt s t p c s.size t.size = [] := by
  unfold edAt
  rw [List.drop_of_length_le (by simp), List.drop_of_length_le (by simp)]
  rfl
theorem edAt_step {s t : ByteArray} {p c i k e : Nat} (he : 1 ≤ e ∧ e ≤ 4) (hok : okS s.data.toList t.data.toList i k e = true)
    (hb : bestS s t p c i k ((e : Int), ((i + diS e : Nat) : Int), ((k + dkS e : Nat) : Int), (coN p c e : Int)) = true)
    (hlow : ∀ e', 1 ≤ e' → e' < e → isBest p c (e' : Int) (s.data.toList.drop i) (t.data.toList.drop k) = false) :
    edAt s t p c i k = (e : Int) :: edAt s t p c (i + diS e) (k + dkS e) := by
  have h1 : isBest p c (e : Int) (s.data.toList.drop i) (t.data.toList.drop k) = true := by rw [best_at he, hok, hb]; rfl
  have hne : ¬ (s.data.toList.drop i = [] ∧ t.data.toList.drop k = []) := by
    rintro ⟨a, b⟩
    obtain ⟨n, s', t', hs, _⟩ := isBest_some h1
    rw [a, b] at hs
    simp [stp] at hs
  have hE : bestE p c (s.data.toList.drop i) (t.data.toList.drop k) = (e : Int) := by
    unfold bestE
    have hcases : e = 1 ∨ e = 2 ∨ e = 3 ∨ e = 4 := by omega
    rcases hcases with rfl | rfl | rfl | rfl
    · exact if_pos h1
    · have l1 := hlow 1 (by omega) (by omega)
      rw [if_neg (by simpa using l1)]; exact if_pos h1
    · have l1 := hlow 1 (by omega) (by omega)
      have l2 := hlow 2 (by omega) (by omega)
      rw [if_neg (by simpa using l1), if_neg (by simpa using l2)]; exact if_pos h1
    · have l1 := hlow 1 (by omega) (by omega)
      have l2 := hlow 2 (by omega) (by omega)
      have l3 := hlow 3 (by omega) (by omega)
      rw [if_neg (by simpa using l1), if_neg (by simpa using l2), if_neg (by simpa using l3)]; rfl
  unfold edAt
  have hst := stp_at s.data.toList t.data.toList p c i k e he
  rw [hok, if_pos rfl, ← hE] at hst
  rw [edt_step hne hst, hE]
/-- .. by the program's steps: the first best one -/
theorem edAt_first {s t : ByteArray} {p c i k : Nat} {pre post : List St} {x : St} (hst : stepsL s.data.toList t.data.toList (p : Int) (c : Int) i k = pre ++ x :: post)
    (hpre : ∀ y ∈ pre, bestS s t p c i k y = false) (hx : bestS s t p c i k x = true) :
    ∃ e i' k' : Nat, x.1 = (e : Int) ∧ x.2.1 = (i' : Int) ∧ x.2.2.1 = (k' : Int) ∧ edAt s t p c i k = (e : Int) :: edAt s t p c i' k' := by
  have hm : x ∈ stepsL s.data.toList t.data.toList (p : Int) (c : Int) i k := by rw [hst]; simp
  obtain ⟨e, he, hok, rfl⟩ := steps_of hm
  refine ⟨e, _, _, rfl, rfl, rfl, edAt_step he hok hx fun e' h1 h2 => ?_⟩
  rw [best_at ⟨h1, by omega⟩]
  cases ho : okS s.data.toList t.data.toList i k e'
  · rfl
  · rw [Bool.true_and]
    have hm' := steps_has (p := p) (c := c) ⟨h1, by omega⟩ ho
    have hso := steps_sorted s.data.toList t.data.toList (p : Int) (c : Int) i k
    rw [hst] at hm' hso
    rcases List.mem_append.1 hm' with h | h
    · exact hpre _ h
    · rcases List.mem_cons.1 h with h | h
      · injection h with h
        have : e' = e := by omega
        omega
      · have h3 := (List.pairwise_cons.1 (List.pairwise_append.1 hso).2.1).1 _ h
        dsimp only at h3
        omega
/-- where something is left there is a best step -/
theorem best_some {s t : ByteArray} {p c i k : Nat} (h : i < s.size ∨ k < t.size) : ∃ x ∈ stepsL s.data.toList t.data.toList (p : Int) (c : Int) i k, bestS s t p c i k x = true := by
  have l1 : s.data.toList.length = s.size := by simp
  have l2 : t.data.toList.length = t.size := by simp
  have hne : ¬ (s.data.toList.drop i = [] ∧ t.data.toList.drop k = []) := by
    rintro ⟨a, b⟩
    have a := List.drop_eq_nil_iff.1 a
    have b := List.drop_eq_nil_iff.1 b
    omega
  have hb := bestE_best (p := p) (c := c) hne
  have hE : ∃ e : Nat, (1 ≤ e ∧ e ≤ 4) ∧ bestE p c (s.data.toList.drop i) (t.data.toList.drop k) = (e : Int) := by
    unfold bestE
    split
    · exact ⟨1, by omega, rfl⟩
    · split
      · exact ⟨2, by omega, rfl⟩
      · split
        · exact ⟨3, by omega, rfl⟩
        · exact ⟨4, by omega, rfl⟩
  obtain ⟨e, he, hE⟩ := hE
  rw [hE, best_at he, Bool.and_eq_true] at hb
  exact ⟨_, steps_has he hb.1, hb.2⟩
theorem edAt_len (s t : ByteArray) (p c i k : Nat) : (edAt s t p c i k).length ≤ (s.size - i) + (t.size - k) := by
  have h := edt_len (p := p) (c := c) (s.data.toList.drop i) (t.data.toList.drop k)
  unfold edAt
  simpa [List.length_drop] using h

/-! ### what edits cost -/
def cstAt (s t : ByteArray) (p c : Nat) (l : List Int) (i k : Nat) : Option Nat := cst p c l (s.data.toList.drop i) (t.data.toList.drop k)
theorem cstAt_nil {s t : ByteArray} {p c i k : Nat} (hi : i ≤ s.size) (hk : k ≤ t.size) : cstAt s t p c [] i k = if i = s.size ∧ k = t.size then some 0 else none := by
  unfold cstAt cst
  have l1 : s.data.toList.length = s.size := by simp
  have l2 : t.data.toList.length = t.size := by simp
  have e : (s.data.toList.drop i = [] ∧ t.data.toList.drop k = []) ↔ (i = s.size ∧ k = t.size) := by
    rw [List.drop_eq_nil_iff, List.drop_eq_nil_iff]
    omega
  by_cases h : i = s.size ∧ k = t.size
  · rw [if_pos h, if_pos (e.2 h)]
  · rw [if_neg h, if_neg (fun h' => h (e.1 h'))]
theorem cstAt_cons {s t : ByteArray} {p c i k e : Nat} (he : 1 ≤ e ∧ e ≤ 4) (l : List Int) : cstAt s t p c ((e : Int) :: l) i k =
    if okS s.data.toList t.data.toList i k e then (cstAt s t p c l (i + diS e) (k + dkS e)).map (coN p c e + ·) else none := by
  unfold cstAt
  conv => lhs; unfold cst
  rw [stp_at _ _ _ _ _ _ _ he]
  cases okS s.data.toList t.data.toList i k e
  · rfl
  · rw [if_pos rfl, if_pos rfl]
theorem cstAt_other {s t : ByteArray} {p c i k : Nat} {e : Int} (he : ¬ (1 ≤ e ∧ e ≤ 4)) (l : List Int) : cstAt s t p c (e :: l) i k = none := by
  unfold cstAt
  conv => lhs; unfold cst
  rw [stp_none he]
end Go.Proofs.YtmhlgnhfbickdaaDoor
