/-
  No cell of these rows narrows 'for every input' (looked for: loops, veiled, ifaces, maps, wideKeys, modest, calm, conditions, laid).
  DERIVED. THE GIVEN ROWS OF THIS SEAT. 15 by the template 'for every input the law returns true; each argument reads behind the call as it read before'; 0 by the template 'total and deterministic' (their statements: YtfabpkcgdblnbaaTotals.lean).
  GIVEN WITH THE SEED: the statements are not yours to turn. If you find one false, say at which input.
  Laid BY PROGRAM, IN A SANDBOX (cutbox-rows.mjs): the forced cells as the released guide's own fill.sh prints them over the translation e777a1795fc38156… (all of the seat's roots in one cut). By AI agents, Wed Nov 11 2026. No macro, syntax, notation, axiom, sorry.
-/
import Derived.Test.YtfabpkcgdblnbaaChecked
import GoSem.Claim
import GoSem.ClaimJoined
import GoSem.ClaimMapViews
import Derived.JoinedTies
import Derived.KernelRfl
namespace Go.Proofs.Ytfabpkcgdblnbaa
/- THE CELL 'sum', in the pinned program and in every row, IS THE sha256 OF THE DUMP (.gsa) THAT YtfabpkcgdblnbaaProg.lean LOADS. Nothing in Lean hashes anything: it is a label: what it is worth is what the hold of that sum in a sandbox is worth. -/
noncomputable def Try.pinned : Pinned := { name := "ytfabpkcgdblnbaa", sum := "e777a1795fc3815668105d18093c71cb69e4c3a3201cbccc257db2203f8a9ac3", checked := Try.checked }
namespace Rows
def none {H : Type} : Left H := { results := [], args := [] }

/-- 'skimmerlaw05.WindowMeets': WHATEVER THE INPUT: true; the input reads as it did. -/
def windowMeetsSpec : ChangeSpec := { name := "windowMeets", fn := fun _ => fun
  | [d1, d2, d3, d4] => { results := [.lit (.bool true)], args := [d1, d2, d3, d4] }
  | _ => none }
def windowMeetsRow : OpenClaim := { program := "ytfabpkcgdblnbaa", sum := "e777a1795fc3815668105d18093c71cb69e4c3a3201cbccc257db2203f8a9ac3", func := "skimmer/skimmerlaw05.WindowMeets", spec := "windowMeets", unfollowed := true, recurses := true, apart := false }
def WindowMeetsSaid : Prop := windowMeetsRow.holds Try.pinned (OpenSpec.ofChange windowMeetsSpec)

/-- ITS FALSE NEIGHBOUR: 'it returns false'. Refute it at one input. -/
def windowMeetsWrong : ChangeSpec := { name := "windowMeets", fn := fun _ => fun
  | [d1, d2, d3, d4] => { results := [.lit (.bool false)], args := [d1, d2, d3, d4] }
  | _ => none }
def WindowMeetsWrongFalsely : Prop := windowMeetsRow.holds Try.pinned (OpenSpec.ofChange windowMeetsWrong)

/-- 'skimmerlaw05.WindowNevers': WHATEVER THE INPUT: true; the input reads as it did. -/
def windowNeversSpec : ChangeSpec := { name := "windowNevers", fn := fun _ => fun
  | [d1, d2, d3] => { results := [.lit (.bool true)], args := [d1, d2, d3] }
  | _ => none }
def windowNeversRow : OpenClaim := { program := "ytfabpkcgdblnbaa", sum := "e777a1795fc3815668105d18093c71cb69e4c3a3201cbccc257db2203f8a9ac3", func := "skimmer/skimmerlaw05.WindowNevers", spec := "windowNevers", unfollowed := true, recurses := true, apart := false }
def WindowNeversSaid : Prop := windowNeversRow.holds Try.pinned (OpenSpec.ofChange windowNeversSpec)

/-- ITS FALSE NEIGHBOUR: 'it returns false'. Refute it at one input. -/
def windowNeversWrong : ChangeSpec := { name := "windowNevers", fn := fun _ => fun
  | [d1, d2, d3] => { results := [.lit (.bool false)], args := [d1, d2, d3] }
  | _ => none }
def WindowNeversWrongFalsely : Prop := windowNeversRow.holds Try.pinned (OpenSpec.ofChange windowNeversWrong)

/-- 'skimmerlaw05.WindowSpans': WHATEVER THE INPUT: true; the input reads as it did. -/
def windowSpansSpec : ChangeSpec := { name := "windowSpans", fn := fun _ => fun
  | [d] => { results := [.lit (.bool true)], args := [d] }
  | _ => none }
def windowSpansRow : OpenClaim := { program := "ytfabpkcgdblnbaa", sum := "e777a1795fc3815668105d18093c71cb69e4c3a3201cbccc257db2203f8a9ac3", func := "skimmer/skimmerlaw05.WindowSpans", spec := "windowSpans", unfollowed := true, recurses := true, apart := false }
def WindowSpansSaid : Prop := windowSpansRow.holds Try.pinned (OpenSpec.ofChange windowSpansSpec)

/-- ITS FALSE NEIGHBOUR: 'it returns false'. Refute it at one input. -/
def windowSpansWrong : ChangeSpec := { name := "windowSpans", fn := fun _ => fun
  | [d] => { results := [.lit (.bool false)], args := [d] }
  | _ => none }
def WindowSpansWrongFalsely : Prop := windowSpansRow.holds Try.pinned (OpenSpec.ofChange windowSpansWrong)

/-- 'skimmerlaw05.WindowSames': WHATEVER THE INPUT: true; the input reads as it did. -/
def windowSamesSpec : ChangeSpec := { name := "windowSames", fn := fun _ => fun
  | [d1, d2] => { results := [.lit (.bool true)], args := [d1, d2] }
  | _ => none }
def windowSamesRow : OpenClaim := { program := "ytfabpkcgdblnbaa", sum := "e777a1795fc3815668105d18093c71cb69e4c3a3201cbccc257db2203f8a9ac3", func := "skimmer/skimmerlaw05.WindowSames", spec := "windowSames", unfollowed := true, recurses := true, apart := false }
def WindowSamesSaid : Prop := windowSamesRow.holds Try.pinned (OpenSpec.ofChange windowSamesSpec)

/-- ITS FALSE NEIGHBOUR: 'it returns false'. Refute it at one input. -/
def windowSamesWrong : ChangeSpec := { name := "windowSames", fn := fun _ => fun
  | [d1, d2] => { results := [.lit (.bool false)], args := [d1, d2] }
  | _ => none }
def WindowSamesWrongFalsely : Prop := windowSamesRow.holds Try.pinned (OpenSpec.ofChange windowSamesWrong)

/-- 'skimmerlaw05.WindowNexts': WHATEVER THE INPUT: true; the input reads as it did. -/
def windowNextsSpec : ChangeSpec := { name := "windowNexts", fn := fun _ => fun
  | [d1, d2, d3] => { results := [.lit (.bool true)], args := [d1, d2, d3] }
  | _ => none }
def windowNextsRow : OpenClaim := { program := "ytfabpkcgdblnbaa", sum := "e777a1795fc3815668105d18093c71cb69e4c3a3201cbccc257db2203f8a9ac3", func := "skimmer/skimmerlaw05.WindowNexts", spec := "windowNexts", unfollowed := true, recurses := true, apart := false }
def WindowNextsSaid : Prop := windowNextsRow.holds Try.pinned (OpenSpec.ofChange windowNextsSpec)

/-- ITS FALSE NEIGHBOUR: 'it returns false'. Refute it at one input. -/
def windowNextsWrong : ChangeSpec := { name := "windowNexts", fn := fun _ => fun
  | [d1, d2, d3] => { results := [.lit (.bool false)], args := [d1, d2, d3] }
  | _ => none }
def WindowNextsWrongFalsely : Prop := windowNextsRow.holds Try.pinned (OpenSpec.ofChange windowNextsWrong)

/-- 'skimmerlaw05.WindowPairs': WHATEVER THE INPUT: true; the input reads as it did. -/
def windowPairsSpec : ChangeSpec := { name := "windowPairs", fn := fun _ => fun
  | [d1, d2] => { results := [.lit (.bool true)], args := [d1, d2] }
  | _ => none }
def windowPairsRow : OpenClaim := { program := "ytfabpkcgdblnbaa", sum := "e777a1795fc3815668105d18093c71cb69e4c3a3201cbccc257db2203f8a9ac3", func := "skimmer/skimmerlaw05.WindowPairs", spec := "windowPairs", unfollowed := true, recurses := true, apart := false }
def WindowPairsSaid : Prop := windowPairsRow.holds Try.pinned (OpenSpec.ofChange windowPairsSpec)

/-- ITS FALSE NEIGHBOUR: 'it returns false'. Refute it at one input. -/
def windowPairsWrong : ChangeSpec := { name := "windowPairs", fn := fun _ => fun
  | [d1, d2] => { results := [.lit (.bool false)], args := [d1, d2] }
  | _ => none }
def WindowPairsWrongFalsely : Prop := windowPairsRow.holds Try.pinned (OpenSpec.ofChange windowPairsWrong)

/-- 'skimmerlaw05.WindowOpens': WHATEVER THE INPUT: true; the input reads as it did. -/
def windowOpensSpec : ChangeSpec := { name := "windowOpens", fn := fun _ => fun
  | [d1, d2] => { results := [.lit (.bool true)], args := [d1, d2] }
  | _ => none }
def windowOpensRow : OpenClaim := { program := "ytfabpkcgdblnbaa", sum := "e777a1795fc3815668105d18093c71cb69e4c3a3201cbccc257db2203f8a9ac3", func := "skimmer/skimmerlaw05.WindowOpens", spec := "windowOpens", unfollowed := true, recurses := true, apart := false }
def WindowOpensSaid : Prop := windowOpensRow.holds Try.pinned (OpenSpec.ofChange windowOpensSpec)

/-- ITS FALSE NEIGHBOUR: 'it returns false'. Refute it at one input. -/
def windowOpensWrong : ChangeSpec := { name := "windowOpens", fn := fun _ => fun
  | [d1, d2] => { results := [.lit (.bool false)], args := [d1, d2] }
  | _ => none }
def WindowOpensWrongFalsely : Prop := windowOpensRow.holds Try.pinned (OpenSpec.ofChange windowOpensWrong)

/-- 'skimmertop.TopWindow': WHATEVER THE INPUT: true; the input reads as it did. -/
def topWindowSpec : ChangeSpec := { name := "topWindow", fn := fun _ => fun
  | [d1, d2] => { results := [.lit (.bool true)], args := [d1, d2] }
  | _ => none }
def topWindowRow : OpenClaim := { program := "ytfabpkcgdblnbaa", sum := "e777a1795fc3815668105d18093c71cb69e4c3a3201cbccc257db2203f8a9ac3", func := "skimmer/skimmertop.TopWindow", spec := "topWindow", unfollowed := true, recurses := true, apart := false }
def TopWindowSaid : Prop := topWindowRow.holds Try.pinned (OpenSpec.ofChange topWindowSpec)

/-- ITS FALSE NEIGHBOUR: 'it returns false'. Refute it at one input. -/
def topWindowWrong : ChangeSpec := { name := "topWindow", fn := fun _ => fun
  | [d1, d2] => { results := [.lit (.bool false)], args := [d1, d2] }
  | _ => none }
def TopWindowWrongFalsely : Prop := topWindowRow.holds Try.pinned (OpenSpec.ofChange topWindowWrong)

/-- 'skimmerlaw05.WindowShifts': WHATEVER THE INPUT: true; the input reads as it did. -/
def windowShiftsSpec : ChangeSpec := { name := "windowShifts", fn := fun _ => fun
  | [d1, d2, d3] => { results := [.lit (.bool true)], args := [d1, d2, d3] }
  | _ => none }
def windowShiftsRow : OpenClaim := { program := "ytfabpkcgdblnbaa", sum := "e777a1795fc3815668105d18093c71cb69e4c3a3201cbccc257db2203f8a9ac3", func := "skimmer/skimmerlaw05.WindowShifts", spec := "windowShifts", unfollowed := true, recurses := true, apart := false }
def WindowShiftsSaid : Prop := windowShiftsRow.holds Try.pinned (OpenSpec.ofChange windowShiftsSpec)

/-- ITS FALSE NEIGHBOUR: 'it returns false'. Refute it at one input. -/
def windowShiftsWrong : ChangeSpec := { name := "windowShifts", fn := fun _ => fun
  | [d1, d2, d3] => { results := [.lit (.bool false)], args := [d1, d2, d3] }
  | _ => none }
def WindowShiftsWrongFalsely : Prop := windowShiftsRow.holds Try.pinned (OpenSpec.ofChange windowShiftsWrong)

/-- 'skimmerlaw05.WindowParts': WHATEVER THE INPUT: true; the input reads as it did. -/
def windowPartsSpec : ChangeSpec := { name := "windowParts", fn := fun _ => fun
  | [d1, d2] => { results := [.lit (.bool true)], args := [d1, d2] }
  | _ => none }
def windowPartsRow : OpenClaim := { program := "ytfabpkcgdblnbaa", sum := "e777a1795fc3815668105d18093c71cb69e4c3a3201cbccc257db2203f8a9ac3", func := "skimmer/skimmerlaw05.WindowParts", spec := "windowParts", unfollowed := true, recurses := true, apart := false }
def WindowPartsSaid : Prop := windowPartsRow.holds Try.pinned (OpenSpec.ofChange windowPartsSpec)

/-- ITS FALSE NEIGHBOUR: 'it returns false'. Refute it at one input. -/
def windowPartsWrong : ChangeSpec := { name := "windowParts", fn := fun _ => fun
  | [d1, d2] => { results := [.lit (.bool false)], args := [d1, d2] }
  | _ => none }
def WindowPartsWrongFalsely : Prop := windowPartsRow.holds Try.pinned (OpenSpec.ofChange windowPartsWrong)

/-- 'skimmerlaw05.WindowFirsts': WHATEVER THE INPUT: true; the input reads as it did. -/
def windowFirstsSpec : ChangeSpec := { name := "windowFirsts", fn := fun _ => fun
  | [d1, d2] => { results := [.lit (.bool true)], args := [d1, d2] }
  | _ => none }
def windowFirstsRow : OpenClaim := { program := "ytfabpkcgdblnbaa", sum := "e777a1795fc3815668105d18093c71cb69e4c3a3201cbccc257db2203f8a9ac3", func := "skimmer/skimmerlaw05.WindowFirsts", spec := "windowFirsts", unfollowed := true, recurses := true, apart := false }
def WindowFirstsSaid : Prop := windowFirstsRow.holds Try.pinned (OpenSpec.ofChange windowFirstsSpec)

/-- ITS FALSE NEIGHBOUR: 'it returns false'. Refute it at one input. -/
def windowFirstsWrong : ChangeSpec := { name := "windowFirsts", fn := fun _ => fun
  | [d1, d2] => { results := [.lit (.bool false)], args := [d1, d2] }
  | _ => none }
def WindowFirstsWrongFalsely : Prop := windowFirstsRow.holds Try.pinned (OpenSpec.ofChange windowFirstsWrong)

/-- 'skimmerlaw05.WindowPlains': WHATEVER THE INPUT: true; the input reads as it did. -/
def windowPlainsSpec : ChangeSpec := { name := "windowPlains", fn := fun _ => fun
  | [d1, d2, d3] => { results := [.lit (.bool true)], args := [d1, d2, d3] }
  | _ => none }
def windowPlainsRow : OpenClaim := { program := "ytfabpkcgdblnbaa", sum := "e777a1795fc3815668105d18093c71cb69e4c3a3201cbccc257db2203f8a9ac3", func := "skimmer/skimmerlaw05.WindowPlains", spec := "windowPlains", unfollowed := true, recurses := true, apart := false }
def WindowPlainsSaid : Prop := windowPlainsRow.holds Try.pinned (OpenSpec.ofChange windowPlainsSpec)

/-- ITS FALSE NEIGHBOUR: 'it returns false'. Refute it at one input. -/
def windowPlainsWrong : ChangeSpec := { name := "windowPlains", fn := fun _ => fun
  | [d1, d2, d3] => { results := [.lit (.bool false)], args := [d1, d2, d3] }
  | _ => none }
def WindowPlainsWrongFalsely : Prop := windowPlainsRow.holds Try.pinned (OpenSpec.ofChange windowPlainsWrong)

/-- 'skimmerlaw05.WindowTogether': WHATEVER THE INPUT: true; the input reads as it did. -/
def windowTogetherSpec : ChangeSpec := { name := "windowTogether", fn := fun _ => fun
  | [d1, d2, d3] => { results := [.lit (.bool true)], args := [d1, d2, d3] }
  | _ => none }
def windowTogetherRow : OpenClaim := { program := "ytfabpkcgdblnbaa", sum := "e777a1795fc3815668105d18093c71cb69e4c3a3201cbccc257db2203f8a9ac3", func := "skimmer/skimmerlaw05.WindowTogether", spec := "windowTogether", unfollowed := true, recurses := true, apart := false }
def WindowTogetherSaid : Prop := windowTogetherRow.holds Try.pinned (OpenSpec.ofChange windowTogetherSpec)

/-- ITS FALSE NEIGHBOUR: 'it returns false'. Refute it at one input. -/
def windowTogetherWrong : ChangeSpec := { name := "windowTogether", fn := fun _ => fun
  | [d1, d2, d3] => { results := [.lit (.bool false)], args := [d1, d2, d3] }
  | _ => none }
def WindowTogetherWrongFalsely : Prop := windowTogetherRow.holds Try.pinned (OpenSpec.ofChange windowTogetherWrong)

/-- 'skimmerlaw05.WindowOthers': WHATEVER THE INPUT: true; the input reads as it did. -/
def windowOthersSpec : ChangeSpec := { name := "windowOthers", fn := fun _ => fun
  | [d1, d2] => { results := [.lit (.bool true)], args := [d1, d2] }
  | _ => none }
def windowOthersRow : OpenClaim := { program := "ytfabpkcgdblnbaa", sum := "e777a1795fc3815668105d18093c71cb69e4c3a3201cbccc257db2203f8a9ac3", func := "skimmer/skimmerlaw05.WindowOthers", spec := "windowOthers", unfollowed := true, recurses := true, apart := false }
def WindowOthersSaid : Prop := windowOthersRow.holds Try.pinned (OpenSpec.ofChange windowOthersSpec)

/-- ITS FALSE NEIGHBOUR: 'it returns false'. Refute it at one input. -/
def windowOthersWrong : ChangeSpec := { name := "windowOthers", fn := fun _ => fun
  | [d1, d2] => { results := [.lit (.bool false)], args := [d1, d2] }
  | _ => none }
def WindowOthersWrongFalsely : Prop := windowOthersRow.holds Try.pinned (OpenSpec.ofChange windowOthersWrong)

/-- 'skimmerlaw05.WindowSets': WHATEVER THE INPUT: true; the input reads as it did. -/
def windowSetsSpec : ChangeSpec := { name := "windowSets", fn := fun _ => fun
  | [d1, d2, d3] => { results := [.lit (.bool true)], args := [d1, d2, d3] }
  | _ => none }
def windowSetsRow : OpenClaim := { program := "ytfabpkcgdblnbaa", sum := "e777a1795fc3815668105d18093c71cb69e4c3a3201cbccc257db2203f8a9ac3", func := "skimmer/skimmerlaw05.WindowSets", spec := "windowSets", unfollowed := true, recurses := true, apart := false }
def WindowSetsSaid : Prop := windowSetsRow.holds Try.pinned (OpenSpec.ofChange windowSetsSpec)

/-- ITS FALSE NEIGHBOUR: 'it returns false'. Refute it at one input. -/
def windowSetsWrong : ChangeSpec := { name := "windowSets", fn := fun _ => fun
  | [d1, d2, d3] => { results := [.lit (.bool false)], args := [d1, d2, d3] }
  | _ => none }
def WindowSetsWrongFalsely : Prop := windowSetsRow.holds Try.pinned (OpenSpec.ofChange windowSetsWrong)

/- THE SECOND FORM. 'bulk': how many values and letters a reading holds, each counted each time it is reached (what is shared counts as often as it is met; a slice's spare places count too). A statement '..UptoSaid' is the law's where the arguments, and the package variables that the reading takes, are together of bulk at most 1048576: NARROWER than '..Said'. Prove '..Said' where nothing that the law and all that it calls make is longer than what came in: it says more and counts as full. Else prove '..UptoSaid'. A law counts once. -/
mutual
def uptoBulk {H : Type} : DataW H → Nat
  | .lit (.string bytes) => bytes.length + 1
  | .lit _ => 1
  | .nil => 1
  | .ptr d => uptoBulk d + 1
  | .slice elems spare => uptoBulkAll elems + uptoBulkAll spare + 1
  | .agg parts => uptoBulkAll parts + 1
  | .iface _ d => uptoBulk d + 1
  | .map entries => uptoBulkEntries entries + 1
  | .held _ => 1
def uptoBulkAll {H : Type} : List (DataW H) → Nat
  | [] => 0
  | d :: r => uptoBulk d + uptoBulkAll r
def uptoBulkEntries {H : Type} : List (Lit × DataW H) → Nat
  | [] => 0
  | x :: r => uptoBulkEntry x + uptoBulkEntries r
def uptoBulkEntry {H : Type} : Lit × DataW H → Nat
  | (.string bytes, d) => bytes.length + uptoBulk d + 1
  | (_, d) => uptoBulk d + 1
 end
def uptoSmall : (H : Type) → List (DataW H) → Bool := fun _ ds => decide (uptoBulkAll ds ≤ 1048576)
def OpenSpec.upto (s : _root_.Go.ChangeSpec) : _root_.Go.OpenSpec := { _root_.Go.OpenSpec.ofChange s with cond := some uptoSmall }

/-- 'skimmerlaw05.WindowMeets', WHERE WHAT IT READS IS OF BULK AT MOST 1048576: true; the input reads as it did. -/
def windowMeetsUptoRow : OpenClaim := { program := "ytfabpkcgdblnbaa", sum := "e777a1795fc3815668105d18093c71cb69e4c3a3201cbccc257db2203f8a9ac3", func := "skimmer/skimmerlaw05.WindowMeets", spec := "windowMeets", unfollowed := true, recurses := true, apart := false, narrowed := true }
def WindowMeetsUptoSaid : Prop := windowMeetsUptoRow.holds Try.pinned (OpenSpec.upto windowMeetsSpec)

/-- 'skimmerlaw05.WindowNevers', WHERE WHAT IT READS IS OF BULK AT MOST 1048576: true; the input reads as it did. -/
def windowNeversUptoRow : OpenClaim := { program := "ytfabpkcgdblnbaa", sum := "e777a1795fc3815668105d18093c71cb69e4c3a3201cbccc257db2203f8a9ac3", func := "skimmer/skimmerlaw05.WindowNevers", spec := "windowNevers", unfollowed := true, recurses := true, apart := false, narrowed := true }
def WindowNeversUptoSaid : Prop := windowNeversUptoRow.holds Try.pinned (OpenSpec.upto windowNeversSpec)

/-- 'skimmerlaw05.WindowSpans', WHERE WHAT IT READS IS OF BULK AT MOST 1048576: true; the input reads as it did. -/
def windowSpansUptoRow : OpenClaim := { program := "ytfabpkcgdblnbaa", sum := "e777a1795fc3815668105d18093c71cb69e4c3a3201cbccc257db2203f8a9ac3", func := "skimmer/skimmerlaw05.WindowSpans", spec := "windowSpans", unfollowed := true, recurses := true, apart := false, narrowed := true }
def WindowSpansUptoSaid : Prop := windowSpansUptoRow.holds Try.pinned (OpenSpec.upto windowSpansSpec)

/-- 'skimmerlaw05.WindowSames', WHERE WHAT IT READS IS OF BULK AT MOST 1048576: true; the input reads as it did. -/
def windowSamesUptoRow : OpenClaim := { program := "ytfabpkcgdblnbaa", sum := "e777a1795fc3815668105d18093c71cb69e4c3a3201cbccc257db2203f8a9ac3", func := "skimmer/skimmerlaw05.WindowSames", spec := "windowSames", unfollowed := true, recurses := true, apart := false, narrowed := true }
def WindowSamesUptoSaid : Prop := windowSamesUptoRow.holds Try.pinned (OpenSpec.upto windowSamesSpec)

/-- 'skimmerlaw05.WindowNexts', WHERE WHAT IT READS IS OF BULK AT MOST 1048576: true; the input reads as it did. -/
def windowNextsUptoRow : OpenClaim := { program := "ytfabpkcgdblnbaa", sum := "e777a1795fc3815668105d18093c71cb69e4c3a3201cbccc257db2203f8a9ac3", func := "skimmer/skimmerlaw05.WindowNexts", spec := "windowNexts", unfollowed := true, recurses := true, apart := false, narrowed := true }
def WindowNextsUptoSaid : Prop := windowNextsUptoRow.holds Try.pinned (OpenSpec.upto windowNextsSpec)

/-- 'skimmerlaw05.WindowPairs', WHERE WHAT IT READS IS OF BULK AT MOST 1048576: true; the input reads as it did. -/
def windowPairsUptoRow : OpenClaim := { program := "ytfabpkcgdblnbaa", sum := "e777a1795fc3815668105d18093c71cb69e4c3a3201cbccc257db2203f8a9ac3", func := "skimmer/skimmerlaw05.WindowPairs", spec := "windowPairs", unfollowed := true, recurses := true, apart := false, narrowed := true }
def WindowPairsUptoSaid : Prop := windowPairsUptoRow.holds Try.pinned (OpenSpec.upto windowPairsSpec)

/-- 'skimmerlaw05.WindowOpens', WHERE WHAT IT READS IS OF BULK AT MOST 1048576: true; the input reads as it did. -/
def windowOpensUptoRow : OpenClaim := { program := "ytfabpkcgdblnbaa", sum := "e777a1795fc3815668105d18093c71cb69e4c3a3201cbccc257db2203f8a9ac3", func := "skimmer/skimmerlaw05.WindowOpens", spec := "windowOpens", unfollowed := true, recurses := true, apart := false, narrowed := true }
def WindowOpensUptoSaid : Prop := windowOpensUptoRow.holds Try.pinned (OpenSpec.upto windowOpensSpec)

/-- 'skimmertop.TopWindow', WHERE WHAT IT READS IS OF BULK AT MOST 1048576: true; the input reads as it did. -/
def topWindowUptoRow : OpenClaim := { program := "ytfabpkcgdblnbaa", sum := "e777a1795fc3815668105d18093c71cb69e4c3a3201cbccc257db2203f8a9ac3", func := "skimmer/skimmertop.TopWindow", spec := "topWindow", unfollowed := true, recurses := true, apart := false, narrowed := true }
def TopWindowUptoSaid : Prop := topWindowUptoRow.holds Try.pinned (OpenSpec.upto topWindowSpec)

/-- 'skimmerlaw05.WindowShifts', WHERE WHAT IT READS IS OF BULK AT MOST 1048576: true; the input reads as it did. -/
def windowShiftsUptoRow : OpenClaim := { program := "ytfabpkcgdblnbaa", sum := "e777a1795fc3815668105d18093c71cb69e4c3a3201cbccc257db2203f8a9ac3", func := "skimmer/skimmerlaw05.WindowShifts", spec := "windowShifts", unfollowed := true, recurses := true, apart := false, narrowed := true }
def WindowShiftsUptoSaid : Prop := windowShiftsUptoRow.holds Try.pinned (OpenSpec.upto windowShiftsSpec)

/-- 'skimmerlaw05.WindowParts', WHERE WHAT IT READS IS OF BULK AT MOST 1048576: true; the input reads as it did. -/
def windowPartsUptoRow : OpenClaim := { program := "ytfabpkcgdblnbaa", sum := "e777a1795fc3815668105d18093c71cb69e4c3a3201cbccc257db2203f8a9ac3", func := "skimmer/skimmerlaw05.WindowParts", spec := "windowParts", unfollowed := true, recurses := true, apart := false, narrowed := true }
def WindowPartsUptoSaid : Prop := windowPartsUptoRow.holds Try.pinned (OpenSpec.upto windowPartsSpec)

/-- 'skimmerlaw05.WindowFirsts', WHERE WHAT IT READS IS OF BULK AT MOST 1048576: true; the input reads as it did. -/
def windowFirstsUptoRow : OpenClaim := { program := "ytfabpkcgdblnbaa", sum := "e777a1795fc3815668105d18093c71cb69e4c3a3201cbccc257db2203f8a9ac3", func := "skimmer/skimmerlaw05.WindowFirsts", spec := "windowFirsts", unfollowed := true, recurses := true, apart := false, narrowed := true }
def WindowFirstsUptoSaid : Prop := windowFirstsUptoRow.holds Try.pinned (OpenSpec.upto windowFirstsSpec)

/-- 'skimmerlaw05.WindowPlains', WHERE WHAT IT READS IS OF BULK AT MOST 1048576: true; the input reads as it did. -/
def windowPlainsUptoRow : OpenClaim := { program := "ytfabpkcgdblnbaa", sum := "e777a1795fc3815668105d18093c71cb69e4c3a3201cbccc257db2203f8a9ac3", func := "skimmer/skimmerlaw05.WindowPlains", spec := "windowPlains", unfollowed := true, recurses := true, apart := false, narrowed := true }
def WindowPlainsUptoSaid : Prop := windowPlainsUptoRow.holds Try.pinned (OpenSpec.upto windowPlainsSpec)

/-- 'skimmerlaw05.WindowTogether', WHERE WHAT IT READS IS OF BULK AT MOST 1048576: true; the input reads as it did. -/
def windowTogetherUptoRow : OpenClaim := { program := "ytfabpkcgdblnbaa", sum := "e777a1795fc3815668105d18093c71cb69e4c3a3201cbccc257db2203f8a9ac3", func := "skimmer/skimmerlaw05.WindowTogether", spec := "windowTogether", unfollowed := true, recurses := true, apart := false, narrowed := true }
def WindowTogetherUptoSaid : Prop := windowTogetherUptoRow.holds Try.pinned (OpenSpec.upto windowTogetherSpec)

/-- 'skimmerlaw05.WindowOthers', WHERE WHAT IT READS IS OF BULK AT MOST 1048576: true; the input reads as it did. -/
def windowOthersUptoRow : OpenClaim := { program := "ytfabpkcgdblnbaa", sum := "e777a1795fc3815668105d18093c71cb69e4c3a3201cbccc257db2203f8a9ac3", func := "skimmer/skimmerlaw05.WindowOthers", spec := "windowOthers", unfollowed := true, recurses := true, apart := false, narrowed := true }
def WindowOthersUptoSaid : Prop := windowOthersUptoRow.holds Try.pinned (OpenSpec.upto windowOthersSpec)

/-- 'skimmerlaw05.WindowSets', WHERE WHAT IT READS IS OF BULK AT MOST 1048576: true; the input reads as it did. -/
def windowSetsUptoRow : OpenClaim := { program := "ytfabpkcgdblnbaa", sum := "e777a1795fc3815668105d18093c71cb69e4c3a3201cbccc257db2203f8a9ac3", func := "skimmer/skimmerlaw05.WindowSets", spec := "windowSets", unfollowed := true, recurses := true, apart := false, narrowed := true }
def WindowSetsUptoSaid : Prop := windowSetsUptoRow.holds Try.pinned (OpenSpec.upto windowSetsSpec)

end Rows
end Go.Proofs.Ytfabpkcgdblnbaa
