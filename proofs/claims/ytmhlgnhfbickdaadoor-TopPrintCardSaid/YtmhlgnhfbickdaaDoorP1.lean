/-
  Which prints and costs are valid: the program and the reference; pairs. Conditions: stated at each.
-/
import Derived.Test.YtmhlgnhfbickdaaDoorBase
import Derived.Test.YtmhlgnhfbickdaaDoorShelf
namespace Go.Proofs.YtmhlgnhfbickdaaDoor
set_option linter.unusedVariables false
set_option linter.unusedSimpArgs false
open Go.RowKit

def okb (b : UInt8) : Bool := decide (97 ≤ b.toNat ∧ b.toNat ≤ 104)
/-- a valid print -/
def valB (s : ByteArray) : Bool := decide (s.size ≤ 20) && s.data.toList.all okb
theorem valB_true {s : ByteArray} : valB s = true ↔ s.size ≤ 20 ∧ ∀ b ∈ s.data.toList, okb b = true := by
  unfold valB
  rw [Bool.and_eq_true, decide_eq_true_iff, List.all_eq_true]
def abc : List UInt8 := [97, 98, 99, 100, 101, 102, 103, 104]
theorem abc_okb (b : UInt8) : abc.contains b = okb b := by
  rw [Bool.eq_iff_iff, List.contains_iff_mem]
  unfold okb abc
  simp only [List.mem_cons, List.not_mem_nil, or_false, decide_eq_true_eq]
  constructor
  · rintro (rfl | rfl | rfl | rfl | rfl | rfl | rfl | rfl) <;> decide
  · intro h
    have e : ∀ n : UInt8, b.toNat = n.toNat → b = n := fun n h => UInt8.toNat_inj.1 h
    have : b.toNat = 97 ∨ b.toNat = 98 ∨ b.toNat = 99 ∨ b.toNat = 100 ∨ b.toNat = 101 ∨ b.toNat = 102 ∨ b.toNat = 103 ∨ b.toNat = 104 := by omega
    rcases this with h | h | h | h | h | h | h | h
    · exact .inl (e 97 h)
    · exact .inr (.inl (e 98 h))
    · exact .inr (.inr (.inl (e 99 h)))
    · exact .inr (.inr (.inr (.inl (e 100 h))))
    · exact .inr (.inr (.inr (.inr (.inl (e 101 h)))))
    · exact .inr (.inr (.inr (.inr (.inr (.inl (e 102 h))))))
    · exact .inr (.inr (.inr (.inr (.inr (.inr (.inl (e 103 h)))))))
    · exact .inr (.inr (.inr (.inr (.inr (.inr (.inr (e 104 h)))))))
theorem drop_all {α : Type} (p : α → Bool) (l : List α) : (l.dropWhile p).isEmpty = l.all p := by
  induction l with
  | nil => rfl
  | cons a l ih =>
    rw [List.dropWhile_cons, List.all_cons]
    cases h : p a
    · simp
    · simp [ih]
theorem trim_all (l cs : List UInt8) : (Lib.trimS l cs).isEmpty = l.all (cs.contains ·) := by
  unfold Lib.trimS Lib.trimLeftS Lib.trimRightS
  rw [drop_all]
  cases h : l.all (cs.contains ·)
  · rw [List.all_eq_false] at h ⊢
    obtain ⟨x, hx, hn⟩ := h
    refine ⟨x, ?_, hn⟩
    rw [List.mem_reverse]
    have hx2 : x ∈ l.reverse := List.mem_reverse.2 hx
    rw [← List.takeWhile_append_dropWhile (p := (cs.contains ·)) (l := l.reverse)] at hx2
    rcases List.mem_append.1 hx2 with h1 | h1
    · have := List.all_takeWhile (p := (cs.contains ·)) (l := l.reverse)
      rw [List.all_eq_true] at this
      exact absurd (this x h1) hn
    · exact h1
  · rw [List.all_eq_true] at h ⊢
    intro x hx
    rw [List.mem_reverse] at hx
    exact h x (List.mem_reverse.1 ((List.dropWhile_sublist _).subset hx))

theorem toList_data' (l : List UInt8) : (⟨l.toArray⟩ : ByteArray).toList = l := by rw [Lib.toList_data]
set_option maxHeartbeats 1000000 in
/-- print.Valid -/
theorem valid_any (s : ByteArray) (w : World) (hs : s.size ≤ 9223372036854775807) :
    Calls Tryd.prog 33 #[.string s] w fun e w' => e = .returned (.bool (valB s)) ∧ Below w.heap.size w w' := by
  by_cases h20 : s.size ≤ 20
  · have hcon := Any.strings_Trim_laid Tryd.lays160 (by kernel_rfl) s ⟨abc.toArray⟩ w hs (by decide) (ascii_of_all (by decide))
    change Calls Tryd.prog 70 _ _ (fun e w' => e = .returned (.string ⟨(Lib.trimS s.data.toList abc).toArray⟩) ∧ Below w.heap.size w w') at hcon
    have hr : (⟨(Lib.trimS s.data.toList abc).toArray⟩ : ByteArray).toList.isEmpty = s.data.toList.all okb := by
      rw [toList_data', trim_all]
      congr 1
      funext b
      exact abc_okb b
    have hv : valB s = s.data.toList.all okb := by unfold valB; rw [decide_eq_true h20]; rfl
    rw [hv, ← hr]
    generalize (⟨(Lib.trimS s.data.toList abc).toArray⟩ : ByteArray) = r at hcon ⊢
    have HC := hid hcon
    have h20' : (s.size : Int) ≤ 20 := by omega
    clear hr hv h20 hcon
    go_enter Tryd.func33, Tryd.ntmps33
    go_wp2_with (go_at_call 70; refine HC.out.mono ?_; rintro e w' ⟨rfl, hB⟩)
    go_ret
    exact ⟨ret_bool (by first | rfl | simp), hB⟩
  · have hv : valB s = false := by unfold valB; rw [decide_eq_false h20]; rfl
    have h20' : ¬ (s.size : Int) ≤ 20 := by omega
    rw [hv]
    clear hv h20
    go_enter Tryd.func33, Tryd.ntmps33
    go_wp2
    go_ret
    exact ⟨rfl, Below.refl _ _⟩

theorem all_take {s : ByteArray} {k : Nat} (h : k < s.size) : (s.data.toList.take (k + 1)).all okb = ((s.data.toList.take k).all okb && okb s[k]) := by
  rw [show s.data.toList.take (k + 1) = s.data.toList.take k ++ [s[k]] by rw [List.take_succ_eq_append_getElem (by simpa using h)]; rfl, List.all_append]
  simp
set_option maxHeartbeats 1000000 in
/-- skimmerref09.Valid -/
theorem rValid_any (s : ByteArray) (w : World) (hs : s.size ≤ 9223372036854775807) :
    Calls Tryd.prog 21 #[.string s] w fun e w' => e = .returned (.bool (valB s)) ∧ w = w' := by
  by_cases h20 : s.size ≤ 20
  · have hv : valB s = s.data.toList.all okb := by unfold valB; rw [decide_eq_true h20]; rfl
    have HV := hid hv
    have h20' : ¬ (20 : Int) < (s.size : Int) := by omega
    clear hv h20
    go_enter Tryd.func21, Tryd.ntmps21
    go_wp2
    go_loop [9] (fun i => ∃ k : Nat, k ≤ s.size ∧ i = .int .i64 k ∧ Hid ((s.data.toList.take k).all okb = true)) (fun i => s.size - (intOf i).toNat)
    case atStart => exact ⟨0, Nat.zero_le _, rfl, hid rfl⟩
    case round =>
      obtain ⟨k, hk, rfl, HK⟩ := hrel
      by_cases hlt : k < s.size
      · have HT := hid (all_take hlt)
        by_cases c1 : (s[k].toNat : Int) < 97
        · have HF : Hid (valB s = false) := hid (by
            rw [HV.out, List.all_eq_false]
            exact ⟨s[k], Array.getElem_mem_toList (xs := s.data) hlt, by unfold okb; simp; omega⟩)
          go_wp2
          go_ret
          exact ⟨ret_bool HF.out.symm, rfl⟩
        · by_cases c2 : (104 : Int) < (s[k].toNat : Int)
          · have HF : Hid (valB s = false) := hid (by
              rw [HV.out, List.all_eq_false]
              exact ⟨s[k], Array.getElem_mem_toList (xs := s.data) hlt, by unfold okb; simp; omega⟩)
            go_wp2
            go_ret
            exact ⟨ret_bool HF.out.symm, rfl⟩
          · have HF : Hid ((s.data.toList.take (k + 1)).all okb = true) := hid (by
              rw [HT.out, HK.out]; unfold okb; simp; omega)
            go_wp2
            go_round
            case rel => exact ⟨k + 1, by omega, by go_num, HF⟩
            case measure => simp [intOf]; omega
      · have HF : Hid (valB s = true) := hid (by
          rw [HV.out]
          have := HK.out
          rwa [List.take_of_length_le (by simp; omega)] at this)
        go_wp2
        go_ret
        exact ⟨ret_bool HF.out.symm, rfl⟩
  · have hv : valB s = false := by unfold valB; rw [decide_eq_false h20]; rfl
    have h20' : (20 : Int) < (s.size : Int) := by omega
    rw [hv]
    clear hv h20
    go_enter Tryd.func21, Tryd.ntmps21
    go_wp2
    go_ret
    exact ⟨rfl, rfl⟩

/-! ### costs -/
def vcB (p c : Int) : Bool := btw 1 p 9 && btw 1 c 9
theorem vcB_true {p c : Int} : vcB p c = true ↔ (1 ≤ p ∧ p ≤ 9) ∧ (1 ≤ c ∧ c ≤ 9) := by unfold vcB; rw [Bool.and_eq_true, btw_iff, btw_iff]
/-- print.ValidCosts -/
theorem vCosts_any (p c : Int) (w : World) : Calls Tryd.prog 34 #[.agg #[.int .i64 p, .int .i64 c]] w fun e w' => e = .returned (.bool (vcB p c)) ∧ Below w.heap.size w w' := by
  cases h1 : btw 1 p 9
  · rw [show vcB p c = false by unfold vcB; rw [h1]; rfl]
    have H1 := hid h1
    clear h1
    go_enter Tryd.func34, Tryd.ntmps34
    go_wp2_with (go_at_call 61; refine (between_any _ _ _ _).mono ?_; rintro e w' ⟨rfl, rfl⟩; rw [H1.out])
    go_ret
    exact ⟨rfl, box_bel _ _⟩
  · rw [show vcB p c = btw 1 c 9 by unfold vcB; rw [h1]; rfl]
    have H1 := hid h1
    clear h1
    go_enter Tryd.func34, Tryd.ntmps34
    go_wp2_with fail
    refine (between_any _ _ _ _).mono ?_
    rintro e w' ⟨rfl, rfl⟩
    rw [H1.out]
    go_wp2_with fail
    refine (between_any _ _ _ _).mono ?_
    rintro e w' ⟨rfl, rfl⟩
    go_wp2
    go_ret
    exact ⟨rfl, box_bel _ _⟩
/-- skimmerref09.ValidCosts -/
theorem rVCosts_any (p c : Int) (w : World) : Calls Tryd.prog 19 #[.agg #[.int .i64 p, .int .i64 c]] w fun e w' => e = .returned (.bool (vcB p c)) ∧ Below w.heap.size w w' := by
  by_cases h1 : 1 ≤ p
  · by_cases h2 : p ≤ 9
    · by_cases h3 : 1 ≤ c
      · by_cases h4 : c ≤ 9
        · have HE := hid (vcB_true.2 ⟨⟨h1, h2⟩, h3, h4⟩)
          go_enter Tryd.func19, Tryd.ntmps19
          go_wp2
          go_ret
          exact ⟨ret_bool (by rw [HE.out] <;> simp <;> omega), box_bel _ _⟩
        · have HE : Hid (vcB p c = false) := hid (by cases e : vcB p c; (· rfl); (· have := vcB_true.1 e; omega))
          go_enter Tryd.func19, Tryd.ntmps19
          go_wp2
          go_ret
          exact ⟨ret_bool (by rw [HE.out] <;> simp <;> omega), box_bel _ _⟩
      · have HE : Hid (vcB p c = false) := hid (by cases e : vcB p c; (· rfl); (· have := vcB_true.1 e; omega))
        go_enter Tryd.func19, Tryd.ntmps19
        go_wp2
        go_ret
        exact ⟨ret_bool (by rw [HE.out] <;> simp <;> omega), box_bel _ _⟩
    · have HE : Hid (vcB p c = false) := hid (by cases e : vcB p c; (· rfl); (· have := vcB_true.1 e; omega))
      go_enter Tryd.func19, Tryd.ntmps19
      go_wp2
      go_ret
      exact ⟨ret_bool (by rw [HE.out] <;> simp <;> omega), box_bel _ _⟩
  · have HE : Hid (vcB p c = false) := hid (by cases e : vcB p c; (· rfl); (· have := vcB_true.1 e; omega))
    go_enter Tryd.func19, Tryd.ntmps19
    go_wp2
    go_ret
    exact ⟨ret_bool (by rw [HE.out] <;> simp <;> omega), box_bel _ _⟩

/-! ### pairs -/
def codeP (s t : ByteArray) (p c : Int) : Int := if valB s && valB t then (if vcB p c then 0 else 91) else 90
def PairR (w : World) (s t : ByteArray) (p c : Int) (e : Ending) (w' : World) : Prop :=
  ∃ x y u v, e = .returned (.tuple #[.agg #[.string x, .string y, .int .i64 u, .int .i64 v], .int .i64 (codeP s t p c)]) ∧ (codeP s t p c = 0 → x = s ∧ y = t ∧ u = p ∧ v = c) ∧ Below w.heap.size w w'
/-- what lies behind the call of newPair: its own two blocks -/
structure NP (w w1 : World) (p c : Int) : Prop where
  bel : Below w.heap.size w w1
  b5 : Blk w1 w.heap.size 24 #[.int .i64 p, .int .i64 c]
  b6 : Blk w1 (w.heap.size + 1) 72 #[.string { data := #[] }, .string { data := #[] }, .int .i64 0, .int .i64 0]
theorem NP.new (w : World) (p c : Int) : NP w ((w.alloc (.cells #[.int .i64 p, .int .i64 c] 24)).alloc (.cells #[.string { data := #[] }, .string { data := #[] }, .int .i64 0, .int .i64 0] 72)) p c := by
  refine ⟨((Below.refl _ _).alloc (Nat.le_refl _) _).alloc (by simp) _, (Blk.new _ _ _).alloc _, ?_⟩
  have := Blk.new (w.alloc (.cells #[.int .i64 p, .int .i64 c] 24)) 72 #[.string { data := #[] }, .string { data := #[] }, .int .i64 0, .int .i64 0]
  simpa using this
theorem NP.next {w w1 w2 : World} {p c : Int} (h : NP w w1 p c) (hb : Below w1.heap.size w1 w2) : NP w w2 p c := ⟨btr h.bel hb h.bel.size, h.b5.below' hb, h.b6.below' hb⟩
theorem NP.facts {w w1 : World} {p c : Int} (h : NP w w1 p c) : (w1.cell? ⟨w.heap.size, 0, none⟩ = some (.int .i64 p) ∧ w1.cell? ⟨w.heap.size, 1, none⟩ = some (.int .i64 c)) ∧
    (w1.cell? ⟨w.heap.size + 1, 0, none⟩ = some (.string { data := #[] }) ∧ w1.cell? ⟨w.heap.size + 1, 1, none⟩ = some (.string { data := #[] }) ∧ w1.cell? ⟨w.heap.size + 1, 2, none⟩ = some (.int .i64 0) ∧ w1.cell? ⟨w.heap.size + 1, 3, none⟩ = some (.int .i64 0)) ∧
    (w1.frozen? ⟨w.heap.size + 1, 0, none⟩ = false ∧ w1.frozen? ⟨w.heap.size + 1, 1, none⟩ = false ∧ w1.frozen? ⟨w.heap.size + 1, 2, none⟩ = false ∧ w1.frozen? ⟨w.heap.size + 1, 3, none⟩ = false) ∧ w.heap.size + 1 < w1.heap.size :=
  ⟨⟨h.b5.cell 0, h.b5.cell 1⟩, ⟨h.b6.cell 0, h.b6.cell 1, h.b6.cell 2, h.b6.cell 3⟩, ⟨h.b6.frozen 0, h.b6.frozen 1, h.b6.frozen 2, h.b6.frozen 3⟩, h.b6.lt⟩
theorem NP.out {w w1 : World} {p c : Int} (h : NP w w1 p c) (a b u v : Value) :
    Below w.heap.size w ((((w1.setCell ⟨w.heap.size + 1, 0, none⟩ a).setCell ⟨w.heap.size + 1, 1, none⟩ b).setCell ⟨w.heap.size + 1, 2, none⟩ u).setCell ⟨w.heap.size + 1, 3, none⟩ v) := by
  have e : w.heap.size ≤ w.heap.size + 1 := by omega
  exact (((h.bel.setCell (p := ⟨w.heap.size + 1, 0, none⟩) e _).setCell (p := ⟨w.heap.size + 1, 1, none⟩) e _).setCell (p := ⟨w.heap.size + 1, 2, none⟩) e _).setCell (p := ⟨w.heap.size + 1, 3, none⟩) e _
set_option maxHeartbeats 1000000 in
theorem newPair_any (s t : ByteArray) (p c : Int) (w : World) (hs : s.size ≤ 9223372036854775807) (ht : t.size ≤ 9223372036854775807) :
    Calls Tryd.prog 60 #[.string s, .string t, .agg #[.int .i64 p, .int .i64 c]] w (PairR w s t p c) := by
  have K := hid (NP.new w p c)
  cases h1 : valB s
  · have HE := hid (show codeP s t p c = 90 by unfold codeP; rw [h1]; rfl)
    have H1 := hid h1
    clear h1
    go_enter Tryd.func60, Tryd.ntmps60
    go_wp2_with fail
    refine (valid_any _ _ hs).mono ?_
    rintro e w1 ⟨rfl, hb1⟩
    rw [H1.out]
    replace K := hid (K.out.next hb1)
    clear hb1
    obtain ⟨⟨c0, c1⟩, ⟨d0, d1, d2, d3⟩, ⟨f0, f1, f2, f3⟩, hlt⟩ := K.out.facts
    go_wp2
    refine bodyPost_ret (v := .tuple #[.agg #[.string { data := #[] }, .string { data := #[] }, .int .i64 0, .int .i64 0], .int .i64 90]) (by simp [results, Tryd.results60, go_sem, d0, d1, d2, d3]) rfl ⟨{ data := #[] }, { data := #[] }, 0, 0, ?_, ?_, K.out.out _ _ _ _⟩
    · rw [HE.out]
    · intro h0; rw [HE.out] at h0; cases h0
  · cases h2 : valB t
    · have HE := hid (show codeP s t p c = 90 by unfold codeP; rw [h1, h2]; rfl)
      have H1 := hid h1
      have H2 := hid h2
      clear h1 h2
      go_enter Tryd.func60, Tryd.ntmps60
      go_wp2_with fail
      refine (valid_any _ _ hs).mono ?_
      rintro e w1 ⟨rfl, hb1⟩
      rw [H1.out]
      replace K := hid (K.out.next hb1)
      clear hb1
      go_wp2_with fail
      refine (valid_any _ _ ht).mono ?_
      rintro e w2 ⟨rfl, hb1⟩
      rw [H2.out]
      replace K := hid (K.out.next hb1)
      clear hb1
      obtain ⟨⟨c0, c1⟩, ⟨d0, d1, d2, d3⟩, ⟨f0, f1, f2, f3⟩, hlt⟩ := K.out.facts
      go_wp2
      refine bodyPost_ret (v := .tuple #[.agg #[.string { data := #[] }, .string { data := #[] }, .int .i64 0, .int .i64 0], .int .i64 90]) (by simp [results, Tryd.results60, go_sem, d0, d1, d2, d3]) rfl ⟨{ data := #[] }, { data := #[] }, 0, 0, ?_, ?_, K.out.out _ _ _ _⟩
      · rw [HE.out]
      · intro h0; rw [HE.out] at h0; cases h0
    · cases h3 : vcB p c
      · have HE := hid (show codeP s t p c = 91 by unfold codeP; rw [h1, h2, h3]; rfl)
        have H1 := hid h1
        have H2 := hid h2
        have H3 := hid h3
        clear h1 h2 h3
        go_enter Tryd.func60, Tryd.ntmps60
        go_wp2_with fail
        refine (valid_any _ _ hs).mono ?_
        rintro e w1 ⟨rfl, hb1⟩
        rw [H1.out]
        replace K := hid (K.out.next hb1)
        clear hb1
        go_wp2_with fail
        refine (valid_any _ _ ht).mono ?_
        rintro e w2 ⟨rfl, hb1⟩
        rw [H2.out]
        replace K := hid (K.out.next hb1)
        clear hb1
        obtain ⟨⟨c0, c1⟩, _⟩ := K.out.facts
        go_wp2_with fail
        refine (vCosts_any _ _ _).mono ?_
        rintro e w3 ⟨rfl, hb1⟩
        rw [H3.out]
        replace K := hid (K.out.next hb1)
        clear hb1 c0 c1
        obtain ⟨⟨c0, c1⟩, ⟨d0, d1, d2, d3⟩, ⟨f0, f1, f2, f3⟩, hlt⟩ := K.out.facts
        go_wp2
        refine bodyPost_ret (v := .tuple #[.agg #[.string { data := #[] }, .string { data := #[] }, .int .i64 0, .int .i64 0], .int .i64 91]) (by simp [results, Tryd.results60, go_sem, d0, d1, d2, d3]) rfl ⟨{ data := #[] }, { data := #[] }, 0, 0, ?_, ?_, K.out.out _ _ _ _⟩
        · rw [HE.out]
        · intro h0; rw [HE.out] at h0; cases h0
      · have HE := hid (show codeP s t p c = 0 by unfold codeP; rw [h1, h2, h3]; rfl)
        have H1 := hid h1
        have H2 := hid h2
        have H3 := hid h3
        clear h1 h2 h3
        go_enter Tryd.func60, Tryd.ntmps60
        go_wp2_with fail
        refine (valid_any _ _ hs).mono ?_
        rintro e w1 ⟨rfl, hb1⟩
        rw [H1.out]
        replace K := hid (K.out.next hb1)
        clear hb1
        go_wp2_with fail
        refine (valid_any _ _ ht).mono ?_
        rintro e w2 ⟨rfl, hb1⟩
        rw [H2.out]
        replace K := hid (K.out.next hb1)
        clear hb1
        obtain ⟨⟨c0, c1⟩, _⟩ := K.out.facts
        go_wp2_with fail
        refine (vCosts_any _ _ _).mono ?_
        rintro e w3 ⟨rfl, hb1⟩
        rw [H3.out]
        replace K := hid (K.out.next hb1)
        clear hb1 c0 c1
        obtain ⟨⟨c0, c1⟩, ⟨d0, d1, d2, d3⟩, ⟨f0, f1, f2, f3⟩, hlt⟩ := K.out.facts
        go_wp2
        refine bodyPost_ret (v := .tuple #[.agg #[.string s, .string t, .int .i64 p, .int .i64 c], .int .i64 0]) (by simp [results, Tryd.results60, go_sem, d0, d1, d2, d3]) rfl ⟨s, t, p, c, ?_, ?_, K.out.out _ _ _ _⟩
        · rw [HE.out]
        · exact fun _ => ⟨rfl, rfl, rfl, rfl⟩

/-- skimmerref09.asked -/
theorem asked_any (s t : ByteArray) (p c : Int) (w : World) (hs : s.size ≤ 9223372036854775807) (ht : t.size ≤ 9223372036854775807) :
    Calls Tryd.prog 68 #[.string s, .string t, .agg #[.int .i64 p, .int .i64 c]] w fun e w' => e = .returned (.int .i64 (codeP s t p c)) ∧ Below w.heap.size w w' := by
  cases h1 : valB s
  · rw [show codeP s t p c = 90 by unfold codeP; rw [h1]; rfl]
    have H1 := hid h1
    clear h1
    go_enter Tryd.func68, Tryd.ntmps68
    go_wp2_with (go_at_call 21; refine (rValid_any _ _ hs).mono ?_; rintro e w' ⟨rfl, rfl⟩; rw [H1.out])
    go_ret
    exact ⟨rfl, box_bel _ _⟩
  · cases h2 : valB t
    · rw [show codeP s t p c = 90 by unfold codeP; rw [h1, h2]; rfl]
      have H1 := hid h1
      have H2 := hid h2
      clear h1 h2
      go_enter Tryd.func68, Tryd.ntmps68
      go_wp2_with fail
      refine (rValid_any _ _ hs).mono ?_
      rintro e w' ⟨rfl, rfl⟩
      rw [H1.out]
      go_wp2_with fail
      refine (rValid_any _ _ ht).mono ?_
      rintro e w' ⟨rfl, rfl⟩
      rw [H2.out]
      go_wp2
      go_ret
      exact ⟨rfl, box_bel _ _⟩
    · rw [show codeP s t p c = if vcB p c then 0 else 91 by unfold codeP; rw [h1, h2]; rfl]
      have H1 := hid h1
      have H2 := hid h2
      clear h1 h2
      cases h3 : vcB p c
      all_goals
        have H3 := hid h3
        clear h3
        go_enter Tryd.func68, Tryd.ntmps68
        go_wp2_with fail
        refine (rValid_any _ _ hs).mono ?_
        rintro e w' ⟨rfl, rfl⟩
        rw [H1.out]
        go_wp2_with fail
        refine (rValid_any _ _ ht).mono ?_
        rintro e w' ⟨rfl, rfl⟩
        rw [H2.out]
        go_wp2_with (go_at_call 19; refine (rVCosts_any _ _ _).mono ?_; rintro e w1 ⟨rfl, hb1⟩; rw [H3.out])
        go_ret
        exact ⟨rfl, box_trans _ hb1⟩
/-- print.plain -/
theorem plain_any (w : World) : Calls Tryd.prog 73 #[] w fun e w' => e = .returned (.agg #[.int .i64 1, .int .i64 1]) ∧ Below w.heap.size w w' := by
  go_enter Tryd.func73, Tryd.ntmps73
  go_wp2
  exact bodyPost_ret (v := .agg #[.int .i64 1, .int .i64 1]) (by simp [results, Tryd.results73, go_sem]) rfl ⟨rfl, (box_bel _ _)⟩
/-- skimmerlaw09.Long -/
theorem long_any (s : ByteArray) (w : World) : Calls Tryd.prog 29 #[.string s] w fun e w' => e = .returned (.bool (decide ((200 : Int) < s.size))) ∧ w = w' := by
  go_enter Tryd.func29, Tryd.ntmps29
  go_wp2
  go_ret
  exact ⟨rfl, rfl⟩
end Go.Proofs.YtmhlgnhfbickdaaDoor
