/-
  A region that draws its order, inside a round of a loop over an iterator: by the plain walk of its orders. Conditions: stated at each.
-/
import Derived.OrdersHeld
import Derived.Test.YtmhlgnhfbickdaaDoorP3
namespace Go.Proofs.YtmhlgnhfbickdaaDoor
set_option linter.unusedVariables false
set_option linter.unusedSimpArgs false
open Go.RowKit Go.Shelf

theorem bcof {w w' : World} (h : Below w.heap.size w w') {a : Addr} {v : Value} (hc : w.cell? a = some v) : w'.cell? a = some v := (h.cell (World.block_lt_of_cell? w a hc)).trans hc
section
variable {l n : Nat} {P : Program} {ops : Array Oper} {Qn : Act → World → Prop} {Q : Exit → Act → World → Prop} {md : Region.Mode}
/-- what a plain walk ends with, at a region that neither panics nor outgrows -/
def OnlyNormal (Qn : Act → World → Prop) (e : Exit) (a : Act) (w : World) : Prop := e = .normal ∧ Qn a w
theorem wpOpIn_of_plain {i : Nat} {K K' : Act → World → Prop} {a : Act} {w : World} (hd : ∀ (j : Nat) (o : Oper), ops[j]? = some o → ∀ c, o.op ≠ .defer c) (hK : ∀ a w, K a w → K' a w)
    (h : wpOp P ops (OnlyNormal Qn) i K a w) : wpOpIn (Fence.wide.inRound l) n P ops Q i K' a w := by
  unfold wpOp at h
  unfold wpOpIn
  cases ho : ops[i]? with
  | none =>
    rw [ho] at h
    exact hK _ _ h
  | some o =>
    simp only [ho] at h ⊢
    split
    · rename_i hw
      rw [if_pos hw] at h
      rcases h with h | ⟨_, a', w', h, _⟩
      · refine ⟨fun _ _ => trivial, ?_⟩
        rw [Fence.inRound_round, Oper.semAt_some _ _ _ (hd i o ho)]
        unfold Oper.wp at h
        generalize (execOp a.eval o).run P w = r at *
        cases r with
        | ok x w' =>
          cases x <;> simp only [Oper.upon, Oper.uponIn] at h ⊢
          case value u => exact hK _ _ h
          case skip => exact hK _ _ h
          case defer d => exact hK _ _ h
          case enter f args =>
            refine ⟨fun h => by simp [Fence.wide, Fence.inRound] at h, CallsIn.inRound l (callsIn_wide.2 (Calls.mono h fun e w'' he => ?_))⟩
            cases e with
            | returned u => exact hK _ _ he
            | panicked c => exact absurd he.1 (by simp)
            | outgrown =>
              obtain ⟨a', w', h, _⟩ := he
              cases h
          case row row args =>
            refine ⟨fun h => by simp [Fence.wide, Fence.inRound] at h, fun c cs _ => ?_⟩
            obtain ⟨v, w', hv, hs⟩ := h c cs
            exact ⟨v, w', hK _ _ hv, stepsIn_wide.2 hs⟩
        | halt x w' =>
          cases x <;> simp only [Oper.upon, Oper.uponIn] at h ⊢
          case panic u => exact absurd h.1 (by simp)
      · cases h
    · rename_i hw
      rw [if_neg hw] at h
      exact ⟨fun _ _ => trivial, hK _ _ h⟩
theorem wpAnyIn_of_plain (hd : ∀ (j : Nat) (o : Oper), ops[j]? = some o → ∀ c, o.op ≠ .defer c) (hQ : ∀ a w, Qn a w → Q .normal a w) : ∀ (fuel : Nat) (listed : Array Bool) (a : Act) (w : World),
    wpAny P md ops (OnlyNormal Qn) fuel listed a w → wpAnyIn (Fence.wide.inRound l) n P md ops Q fuel listed a w
  | 0, _, a, w, h => ⟨h.1, hQ _ _ h.2.2⟩
  | fuel + 1, listed, a, w, h => ⟨fun hr => hQ _ _ (h.1 hr).2, fun i hi => wpOpIn_of_plain hd (fun a' w' h' => wpAnyIn_of_plain hd hQ fuel _ a' w' h') (h.2 i hi)⟩
def noDefer (ops : Array Oper) : Bool := ops.toList.all fun o => match o.op with | .defer _ => false | _ => true
theorem noDefer_spec (h : noDefer ops = true) : ∀ (j : Nat) (o : Oper), ops[j]? = some o → ∀ c, o.op ≠ .defer c := by
  intro j o ho c hc
  have h1 := List.all_eq_true.1 h o (List.mem_of_getElem? (i := j) (by simpa using ho))
  rw [hc] at h1
  exact absurd h1 (by simp)
/-- the rule: S is kept from the world behind the draw on -/
theorem wpIn_region_held {S : World → Prop} {id : Nat} {a : Act} {w : World} (hm : P.follows .mixedOrders = true) (hd : noDefer ops = true) (hQ : ∀ a w, Qn a w → Q .normal a w)
    (h : wpAnyH P .any ops (OnlyNormal Qn) S ops.size (Array.replicate ops.size false) a w.drew) : (Code.region id ops true).wpIn (Fence.wide.inRound l) n P Q a w :=
  wpIn_region_any hm (wpAnyIn_of_plain (noDefer_spec hd) hQ _ _ _ _ (wpAny_of_held _ _ _ _ h))
/-- an operation that yields its value in every world that meets S is taken first -/
theorem takeR {S : World → Prop} {i : Nat} {oi : Oper} {os : List Oper} {v : Value} {fuel : Nat} {listed : Array Bool} {a : Act} {w : World} (hi : ops.toList.drop i = oi :: os)
    (hs : Region.noSelect ops = true) (hf : Region.free md ops listed i = true) (hr : (Region.ready md ops listed).contains i = true) (hw : Region.wanted oi (yielded ops a.tmps) = true)
    (hv : ∀ w, S w → (execOp a.eval oi).run P w = .ok (.value v) w) (hS : S w)
    (h : wpAnyH P md ops (OnlyNormal Qn) S fuel (listed.setIfInBounds i true) (a.put oi.dst v) w) : wpAnyH P md ops (OnlyNormal Qn) S (fuel + 1) listed a w :=
  wpAnyH_take (by have h1 := congrArg List.head? hi; rw [List.head?_drop] at h1; simpa using h1) hs hf hr (fun _ _ _ h => nomatch h.1) (Or.inl ⟨hw, hv⟩) hS h
/-- the one operation that may come up -/
theorem oneR {S : World → Prop} {i : Nat} {oi : Oper} {os : List Oper} {fuel : Nat} {listed : Array Bool} {a : Act} {w : World} (hi : ops.toList.drop i = oi :: os)
    (hr : Region.ready md ops listed = [i]) (hw : Region.wanted oi (yielded ops a.tmps) = true)
    (h : ∀ K : Act → World → Prop, Hid (∀ a w, S w → wpAnyH P md ops (OnlyNormal Qn) S fuel (listed.setIfInBounds i true) a w → K a w) → Oper.wp P oi a w K (OnlyNormal Qn)) : wpAnyH P md ops (OnlyNormal Qn) S (fuel + 1) listed a w := by
  refine wpAnyH_all hr (by simp) fun j hj => ?_
  obtain rfl := List.mem_singleton.1 hj
  have ho : ops[j]? = some oi := by have h1 := congrArg List.head? hi; rw [List.head?_drop] at h1; simpa using h1
  unfold wpOp
  simp only [ho, hw, if_true]
  exact .inl (h _ (hid fun a w h1 h2 => ⟨h1, h2⟩))
theorem doneR {S : World → Prop} {fuel : Nat} {listed : Array Bool} {a : Act} {w : World} (hr : Region.ready md ops listed = []) (h : Qn a w) : wpAnyH P md ops (OnlyNormal Qn) S fuel listed a w := wpAnyH_done hr ⟨rfl, h⟩ _
end
end Go.Proofs.YtmhlgnhfbickdaaDoor
