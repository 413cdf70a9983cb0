/-
  A region that draws its order and only reads, inside a round of a loop over an iterator: walked once, in the order of the text. Conditions: stated at each.
-/
import Derived.Test.YtmhlgnhfbickdaaDoorRnd
namespace Go.Proofs.YtmhlgnhfbickdaaDoor
set_option linter.unusedVariables false
set_option linter.unusedSimpArgs false
open Go.RowKit Go.Shelf

theorem wpIn_quiet_round {r n id : Nat} {P : Program} {Q : Exit → Act → World → Prop} {a : Act} {w : World} {l : List Oper} (hm : P.follows .mixedOrders = true) (hd : noDefer l.toArray = true) (hB : Region.lexB .any l.toArray = true)
    (h : wpQuiet P l.toArray (fun w' => ∃ n, w' = w.drewN n) (fun a' => ∀ w', (∃ n, w' = w.drewN n) → Q .normal a' w') l a) : (Code.region id l.toArray true).wpIn (Fence.wide.inRound r) n P Q a w := by
  have hB' := hB
  simp only [Region.lexB, Bool.and_eq_true] at hB'
  refine wpIn_region_any hm (wpAnyIn_of_plain (Qn := fun a w => Q .normal a w) (noDefer_spec hd) (fun _ _ h => h) _ _ _ _ ?_)
  refine wpAny_of_quiet (C := fun w' => ∃ n, w' = w.drewN n) (Q := fun a' => ∀ w', (∃ n, w' = w.drewN n) → Q .normal a' w') (fun _ w' hw' h => ⟨rfl, h w' hw'⟩) _ _ _ _ ⟨1, rfl⟩ ?_
  have := wpAnyQ_lex (C := fun w' => ∃ n, w' = w.drewN n) (md := .any) hB'.1 l.toArray.toList 0 (Array.replicate l.toArray.size false) a (by simp) (by simpa using hB'.2) (by simpa using h)
  simpa using this
end Go.Proofs.YtmhlgnhfbickdaaDoor
