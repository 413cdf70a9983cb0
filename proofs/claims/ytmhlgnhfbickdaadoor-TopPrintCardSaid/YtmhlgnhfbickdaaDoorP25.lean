/-
  A print the other way round; the walk of the law PrintNumbers. Conditions: the print's length is an int's.
-/
import Derived.Test.YtmhlgnhfbickdaaDoorP12
import Derived.Lib.IndexBytes
namespace Go.Proofs.YtmhlgnhfbickdaaDoor
set_option linter.unusedVariables false
set_option linter.unusedSimpArgs false
open Go.RowKit Go.Shelf

def revB (s : ByteArray) : ByteArray := ⟨s.data.toList.reverse.toArray⟩
theorem revB_list (s : ByteArray) : (revB s).data.toList = s.data.toList.reverse := rfl
theorem revB_size (s : ByteArray) : (revB s).size = s.size := by
  show s.data.toList.reverse.toArray.size = s.size
  rw [List.size_toArray, List.length_reverse]
  simp
theorem revB_val (s : ByteArray) : valB (revB s) = valB s := by
  unfold valB
  rw [revB_size, revB_list, List.all_reverse]
theorem bytes_ext {a b : ByteArray} (h : a.data.toList = b.data.toList) : a = b := by
  cases a; cases b
  simpa using Array.toList_inj.1 h
theorem append_list (a b : ByteArray) : (a ++ b).data.toList = a.data.toList ++ b.data.toList := by simp [ByteArray.data_append]
set_option maxHeartbeats 1000000 in
/-- skimmerlaw09.turned -/
theorem turned_any (s : ByteArray) (w : World) (hs : s.size ≤ 20) : Calls Tryd.prog 38 #[.string s] w fun e w' => e = .returned (.string (revB s)) ∧ w = w' := by
  have hl : s.data.toList.length = s.size := by simp
  have HLN := hid hl
  clear hl
  go_enter Tryd.func38, Tryd.ntmps38
  go_wp2
  go_loop [3, 4] (fun o x => ∃ (g : Nat) (b : ByteArray), g ≤ s.size ∧ x = .int .i64 ((g : Int) - 1) ∧ o = .string b ∧ Hid (b.data.toList = (s.data.toList.drop g).reverse)) (fun _ x => (intOf x + 1).toNat)
  case atStart => exact ⟨s.size, _, Nat.le_refl _, rfl, rfl, hid (by rw [List.drop_of_length_le (by rw [HLN.out]; omega)]; rfl)⟩
  case round =>
    obtain ⟨g, b, hg, rfl, rfl, HB⟩ := hrel
    by_cases h0 : g = 0
    · subst h0
      rw [show (((0 : Nat) : Int) - 1) = -1 by omega]
      obtain rfl : b = revB s := bytes_ext (by rw [HB.out, revB_list]; rfl)
      go_wp2
      go_ret
      exact ⟨rfl, rfl⟩
    · obtain ⟨i, rfl⟩ : ∃ i, g = i + 1 := ⟨g - 1, by omega⟩
      rw [show ((i + 1 : Nat) : Int) - 1 = (i : Int) by omega]
      have hbs : b.size ≤ 20 := by
        have h1 : b.data.toList.length = b.size := by simp
        rw [HB.out, List.length_reverse, List.length_drop, HLN.out] at h1
        omega
      have hbs2 : ¬ 9223372036854775807 < b.size + 1 := by omega
      go_wp2
      go_round
      case rel =>
        refine ⟨i, _, by omega, rfl, rfl, hid ?_⟩
        rw [append_list, HB.out, Lib.extract_data, List.drop_eq_getElem_cons (i := i) (by rw [HLN.out]; omega), List.reverse_cons, show i + 1 - i = 1 by omega]
        simp [List.drop_eq_getElem_cons (show i < s.data.toList.length by rw [HLN.out]; omega)]
      case measure => simp [intOf]
end Go.Proofs.YtmhlgnhfbickdaaDoor
