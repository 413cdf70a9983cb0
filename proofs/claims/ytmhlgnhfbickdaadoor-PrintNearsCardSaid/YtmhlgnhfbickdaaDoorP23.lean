/-
  How many rows a print has: the program and the reference; find. Conditions: stated at each.
-/
import Derived.Maps.OwnOps
import Derived.Lib.IndexBytes
import Derived.Test.YtmhlgnhfbickdaaDoorP7
import Derived.Test.YtmhlgnhfbickdaaDoorMath6
namespace Go.Proofs.YtmhlgnhfbickdaaDoor
set_option linter.unusedVariables false
set_option linter.unusedSimpArgs false
open Go.RowKit Go.Shelf Go.Maps

/-- the first place of a peak; the length if there is none -/
def fnd : List UInt8 → UInt8 → Nat
  | [], _ => 0
  | y :: s, x => if y = x then 0 else fnd s x + 1
theorem fnd_le (x : UInt8) : ∀ l, fnd l x ≤ l.length
  | [] => Nat.le_refl _
  | y :: s => by unfold fnd; split; (· omega); (· have := fnd_le x s; simp; omega)
theorem fnd_eq (x : UInt8) : ∀ (l : List UInt8) (k : Nat), k ≤ l.length → (∀ j, j < k → l[j]? ≠ some x) → (k < l.length → l[k]? = some x) → fnd l x = k := by
  intro l
  induction l with
  | nil => intro k hk _ _; simp at hk; subst hk; rfl
  | cons y s ih =>
    intro k hk h1 h2
    unfold fnd
    cases k with
    | zero =>
      have := h2 (by simp)
      simp at this
      rw [if_pos this]
    | succ k =>
      have h0 := h1 0 (by omega)
      simp at h0
      rw [if_neg h0, ih k (by simpa using hk) (fun j hj => by simpa using h1 (j + 1) (by omega)) (fun h => by simpa using h2 (by simpa using h))]
theorem aft_fnd (x : UInt8) : ∀ l, aft l x = if fnd l x < l.length then some (l.drop (fnd l x + 1)) else none
  | [] => rfl
  | y :: s => by
    unfold aft fnd
    by_cases e : y = x
    · rw [if_pos e, if_pos e]; simp
    · rw [if_neg e, if_neg e, aft_fnd x s]
      by_cases h : fnd s x < s.length
      · rw [if_pos h, if_pos (by simpa using h)]; rfl
      · rw [if_neg h, if_neg (by simpa using h)]
def findI (l : List UInt8) (x : UInt8) : Int := if fnd l x < l.length then (fnd l x : Int) else -1
set_option maxHeartbeats 1000000 in
/-- skimmerref09.find -/
theorem find_any (s : ByteArray) (x : UInt8) (w : World) (hs : s.size ≤ 9223372036854775807) :
    Calls Tryd.prog 80 #[.string s, .int .u8 (x.toNat : Int)] w fun e w' => e = .returned (.int .i64 (findI s.data.toList x)) ∧ w = w' := by
  have hl : s.data.toList.length = s.size := by simp
  have HLN := hid hl
  clear hl
  go_enter Tryd.func80, Tryd.ntmps80
  go_wp2
  go_loop [8] (fun i => ∃ k : Nat, k ≤ s.size ∧ i = .int .i64 (k : Int) ∧ Hid (∀ j, j < k → s.data.toList[j]? ≠ some x)) (fun i => s.size - (intOf i).toNat)
  case atStart => exact ⟨0, Nat.zero_le _, rfl, hid (by omega)⟩
  case round =>
    obtain ⟨k, hk, rfl, HN⟩ := hrel
    by_cases hlt : k < s.size
    · have hg : Hid (s.data.toList[k]? = some s[k]) := hid (by rw [List.getElem?_eq_getElem (by simpa using hlt)]; rfl)
      by_cases he : s[k] = x
      · have HF : Hid (findI s.data.toList x = (k : Int)) := hid (by
          have h1 : fnd s.data.toList x = k := fnd_eq x _ k (by rw [HLN.out]; omega) HN.out (fun _ => by rw [hg.out, he])
          unfold findI
          rw [h1, if_pos (by rw [HLN.out]; exact hlt)])
        have d1 : ((s[k].toNat : Int) == (x.toNat : Int)) = true := by rw [he]; simp
        clear he
        go_wp2
        go_ret
        exact ⟨ret_int HF.out.symm, rfl⟩
      · have d1 : ((s[k].toNat : Int) == (x.toNat : Int)) = false := by
          simp only [beq_eq_false_iff_ne, ne_eq]
          exact fun h => he (UInt8.toNat_inj.1 (by omega))
        have HE := hid he
        clear he
        go_wp2
        go_round
        case rel => exact ⟨k + 1, by omega, by go_num, hid (fun j hj => by (by_cases e : j = k; (subst e; rw [hg.out]; exact fun h => HE.out (by injection h)); exact HN.out j (by omega)))⟩
        case measure => simp [intOf]; omega
    · obtain rfl : k = s.size := by omega
      have HF : Hid (findI s.data.toList x = -1) := hid (by
        have h1 : fnd s.data.toList x = s.size := fnd_eq x _ s.size (by rw [HLN.out]; omega) HN.out (fun h => by rw [HLN.out] at h; omega)
        unfold findI
        rw [h1, if_neg (by rw [HLN.out]; omega)])
      go_wp2
      go_ret
      exact ⟨ret_int HF.out.symm, rfl⟩

/-! ### Rows of the program -/
theorem abc_nodup : abc.Nodup := by decide
theorem abc_mem {s : ByteArray} (h : valB s = true) : ∀ x ∈ s.data.toList, x ∈ abc := fun x hx => by
  rw [← List.contains_iff_mem, abc_okb]
  exact (valB_true.1 h).2 x hx
theorem rws_small {l : List UInt8} (h : l.length ≤ 20) : rws l ≤ 1048576 := Nat.le_trans (rws_le l) (by
  have := Nat.pow_le_pow_right (n := 2) (by omega) h
  exact this)
def rowsV (s : ByteArray) : Int := if valB s then (rws s.data.toList : Int) else 0
def rowsC (s : ByteArray) : Int := if valB s then 0 else 90
def RowsR (w : World) (s : ByteArray) (e : Ending) (w' : World) : Prop := e = .returned (.tuple #[.int .i64 (rowsV s), .int .i64 (rowsC s)]) ∧ Below w.heap.size w w'
theorem rowsV_yes {s : ByteArray} (h : valB s = true) : rowsV s = (rws s.data.toList : Int) ∧ rowsC s = 0 := by unfold rowsV rowsC; rw [h]; exact ⟨rfl, rfl⟩
theorem rowsV_no {s : ByteArray} (h : valB s = false) : rowsV s = 0 ∧ rowsC s = 90 := by unfold rowsV rowsC; rw [h]; exact ⟨rfl, rfl⟩
theorem law5 : Keyed Tryd.prog 5 := int_keyed Tryd.underlying5
theorem zero3 (w : World) : (zeroValue 3).run Tryd.prog w = .ok (.int .i64 0) w := by kernel_rfl
theorem key5 (x : UInt8) : keyOf Tryd.prog 5 (.int .u8 (x.toNat : Int)) = some (.int .u8 (x.toNat : Int)) := keyOf_int_mk Tryd.underlying5 (by
  have h1 := x.toNat_lt
  have h2 : IntKind.min .u8 = 0 := rfl
  have h3 : IntKind.max .u8 = 255 := rfl
  simp only [Lit.wf, h2, h3, Bool.and_eq_true, decide_eq_true_eq]
  omega)
/-- the peaks so far, the last one first -/
def revT (s : ByteArray) (k : Nat) : List UInt8 := (s.data.toList.take k).reverse
theorem revT_succ {s : ByteArray} {k : Nat} (h : k < s.size) : revT s (k + 1) = s[k] :: revT s k := by
  unfold revT
  rw [show s.data.toList.take (k + 1) = s.data.toList.take k ++ [s[k]] by rw [List.take_succ_eq_append_getElem (by simpa using h)]; rfl, List.reverse_append]
  rfl
theorem revT_all (s : ByteArray) : revT s s.size = s.data.toList.reverse := by unfold revT; rw [List.take_of_length_le (by simp)]
theorem revT_len (s : ByteArray) (k : Nat) : (revT s k).length ≤ k := by unfold revT; rw [List.length_reverse]; exact List.length_take_le _ _
theorem revT_zero (s : ByteArray) : revT s 0 = [] := rfl
set_option maxRecDepth 100000 in
set_option maxHeartbeats 4000000 in
/-- print.Rows -/
theorem rows_any (s : ByteArray) (w : World) (hs : s.size ≤ 9223372036854775807) : Calls Tryd.prog 39 #[.string s] w (RowsR w s) := by
  have hmm := @run_makeMap Tryd.prog
  cases hv : valB s
  · have HV := hid hv
    have HR := hid (rowsV_no hv)
    clear hv hmm
    go_enter Tryd.func39, Tryd.ntmps39
    go_wp2_with (go_at_call 33; refine (valid_any _ _ hs).mono ?_; rintro e w' ⟨rfl, hb⟩; rw [HV.out])
    refine bodyPost_ret (v := .tuple #[.int .i64 0, .int .i64 90]) (by simp [results, Tryd.results39, go_sem]) rfl ⟨by rw [HR.out.1, HR.out.2], hb⟩
  · have h20 := (valB_true.1 hv).1
    have HV := hid hv
    have HR := hid (rowsV_yes hv)
    have HRV := hid (rws_rev abc abc_nodup s.data.toList (abc_mem hv))
    clear hv
    go_enter Tryd.func39, Tryd.ntmps39
    go_wp2_with fail
    refine (valid_any _ _ hs).mono ?_
    rintro e w1 ⟨rfl, hb⟩
    rw [HV.out]
    have HB1 := hid hb
    clear hb
    go_wp2
    go_loopw [4, 14] (fun v x wr => ∃ k : Nat, k ≤ s.size ∧ x = .int .i64 (k : Int) ∧ v = .int .i64 (rws (revT s k) : Int) ∧ Hid (wr.ownsMap Tryd.prog 5 (plainElem (H := Unit) Tryd.prog 3) w1.heap.size k (lastM (revT s k))) ∧ Hid (Below w.heap.size w wr)) (fun _ x _ => s.size - (intOf x).toNat)
    case atStart => exact ⟨0, Nat.zero_le _, rfl, rfl, hid (World.ownsMap_made _ _ _ _), hid (HB1.out.alloc HB1.out.size _)⟩
    case round =>
      obtain ⟨k, hk, rfl, rfl, HM, HW⟩ := hrel
      clear hmm
      by_cases hlt : k < s.size
      · have hrl := revT_len s k
        have hsm := rws_small (l := revT s k) (by omega)
        have hlt2 := hws_lt (revT s k) s[k]
        have HSU := hid (revT_succ hlt)
        obtain ⟨a, ha⟩ : ∃ a, rws (revT s k) = a := ⟨_, rfl⟩
        obtain ⟨b, hb⟩ : ∃ b, hws (revT s k) s[k] = b := ⟨_, rfl⟩
        rw [ha] at hsm hlt2 ⊢
        rw [hb] at hlt2
        have hkey := key5 s[k]
        have hat0 := lastM_at (H := Unit) s[k] (revT s k)
        rw [hb] at hat0
        have HA := hid (And.intro ha (And.intro hb hat0))
        clear ha hb hat0
        go_wp2_with (first
          | (at_lookup; refine wpList_lookup_own_int _ rfl _ _ 95 rfl 5 3 .i64 law5 Tryd.underlying95 Tryd.underlying3 (zero3 _) w1.heap.size k _ rfl HM.out _ _ rfl hkey ?_; intro c hat hwc; obtain rfl : c = (b : Int) := (by rw [HA.out.2.2] at hat; injection hat with hat; injection hat with _ hat; exact hat.symm); clear hat hwc)
          | (at_mapUpdate; refine wpList_mapUpdate_own _ rfl _ _ _ 95 rfl 5 3 law5 Tryd.underlying95 _ w1.heap.size k _ rfl HM.out (by unfold maxLen; omega) _ _ _ rfl rfl hkey (.lit (.int .i64 (a : Int))) [] (plainElem_int Tryd.underlying3 (by have h2 : IntKind.min .i64 = -9223372036854775808 := rfl; have h3 : IntKind.max .i64 = 9223372036854775807 := rfl; simp only [Lit.wf, h2, h3, Bool.and_eq_true, decide_eq_true_eq]; omega)) ?_; intro w2 hown hgrow; have HO := hid (And.intro hown (HW.out.grown hgrow HW.out.size (fun j hj => by cases hj; exact HB1.out.size))); clear hown hgrow))
        go_roundw
        case rel =>
          refine ⟨k + 1, by omega, by go_num, ?_, hid ?_, hid HO.out.2⟩
          · rw [HSU.out, rws_cons, HA.out.1, HA.out.2.1]
            exact congrArg (Value.int .i64) (by omega)
          · have h := HO.out.1
            rw [HSU.out]
            unfold lastM
            rw [HA.out.1]
            exact h
        case measure => simp [intOf]; omega
      · obtain rfl : k = s.size := by omega
        go_wp2
        refine bodyPost_ret (v := .tuple #[.int .i64 (rws (revT s s.size) : Int), .int .i64 0]) (by simp [results, Tryd.results39, go_sem]) rfl ⟨by rw [HR.out.1, HR.out.2, revT_all, HRV.out], HW.out⟩

/-! ### Rows of the reference -/
/-- the rows that begin with one of the first peaks -/
def ps (l : List UInt8) (q : Nat) : Nat := 1 + sumOf (hws l) (abc.take q)
theorem ps_zero (l : List UInt8) : ps l 0 = 1 := rfl
theorem ps_succ (l : List UInt8) {q : Nat} (h : q < 8) : ps l (q + 1) = ps l q + hws l (abc.getD q 0) := by
  unfold ps sumOf
  have e : abc.take (q + 1) = abc.take q ++ [abc.getD q 0] := by
    have hl : q < abc.length := h
    rw [List.take_succ_eq_append_getElem hl, List.getD_eq_getElem?_getD, List.getElem?_eq_getElem hl]
    rfl
  rw [e, List.map_append, List.sum_append]
  simp
  omega
theorem ps_all {l : List UInt8} (h : ∀ x ∈ l, x ∈ abc) : ps l 8 = rws l := (rws_sum abc abc_nodup l h).symm
theorem abc_get {q : Nat} (h : q < 8) : (abc.getD q 0).toNat = 97 + q := by
  have : q = 0 ∨ q = 1 ∨ q = 2 ∨ q = 3 ∨ q = 4 ∨ q = 5 ∨ q = 6 ∨ q = 7 := by omega
  rcases this with rfl | rfl | rfl | rfl | rfl | rfl | rfl | rfl <;> rfl
theorem hws_fnd (l : List UInt8) (x : UInt8) : hws l x = if fnd l x < l.length then rws (l.drop (fnd l x + 1)) else 0 := by
  rw [hws_aft, aft_fnd]
  by_cases h : fnd l x < l.length
  · rw [if_pos h, if_pos h]
  · rw [if_neg h, if_neg h]
theorem ps_le {l : List UInt8} (h : ∀ x ∈ l, x ∈ abc) {q : Nat} (hq : q ≤ 8) : ps l q ≤ rws l := by
  have key : ∀ d q, q + d = 8 → ps l q ≤ ps l 8 := by
    intro d
    induction d with
    | zero => intro q hq; rw [show q = 8 by omega]; exact Nat.le_refl _
    | succ d ih => intro q hq; have h1 := ih (q + 1) (by omega); rw [ps_succ l (by omega)] at h1; omega
  rw [← ps_all h]
  exact key (8 - q) q (by omega)
end Go.Proofs.YtmhlgnhfbickdaaDoor
