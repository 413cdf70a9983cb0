/-
  Plain laws: the map of the program's Rows, what it holds behind some peaks. Conditions: none.
-/
import Derived.Maps.OwnOps
import Derived.Maps.Views
import Derived.Test.YtmhlgnhfbickdaaDoorMath3
namespace Go.Proofs.YtmhlgnhfbickdaaDoor
set_option linter.unusedVariables false
set_option linter.unusedSimpArgs false
open Go.RowKit Go.Maps

/-- the map behind some peaks, the last one first -/
def lastM {H : Type} : List UInt8 → DataW H
  | [] => .map []
  | x :: s => (lastM s).put (.int .u8 (x.toNat : Int)) (.lit (.int .i64 (rws s : Int)))
theorem lastM_map {H : Type} : ∀ s, IsMap (lastM (H := H) s)
  | [] => ⟨[], rfl⟩
  | x :: s => IsMap.put (lastM_map s) _ _
theorem lastM_at {H : Type} (y : UInt8) : ∀ s, (lastM (H := H) s).atKey (.int .u8 (y.toNat : Int)) (.lit (.int .i64 0)) = .lit (.int .i64 (hws s y : Int))
  | [] => rfl
  | x :: s => by
    unfold lastM
    rw [hws_cons]
    by_cases e : y = x
    · subst e
      rw [if_pos rfl, atKey_put_same (lastM_map s) (by simp [WideAt.IsKeyLit])]
    · rw [if_neg e, atKey_put_other, lastM_at y s]
      intro h
      injection h with _ h
      exact e (UInt8.toNat_inj.1 (by omega))
/-- the peaks that a print may hold -/
def abl : List UInt8 := [97, 98, 99, 100, 101, 102, 103, 104]
theorem abl_nodup : abl.Nodup := by decide
end Go.Proofs.YtmhlgnhfbickdaaDoor
