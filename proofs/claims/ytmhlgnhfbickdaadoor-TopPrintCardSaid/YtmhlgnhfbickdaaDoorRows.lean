/-
  NARROWER THAN 'FOR EVERY INPUT', by the rows' own cells (each row's printed sentence says how): TopPrint: laid · PrintTriangles: laid · PrintDistances: laid · PrintEdits: laid · PrintTurns: laid · PrintNumbers: laid · PrintFars: laid · PrintProves: laid · PrintRows: laid · PrintAsks: laid · PrintBacks: laid · PrintCommons: laid · PrintOthers: laid · PrintNears: laid · PrintProofs: laid.
  DERIVED. THE GIVEN ROWS OF THIS SEAT. 15 by the template 'for every input the law returns true; each argument reads behind the call as it read before'; 0 by the template 'total and deterministic' (their statements: YtmhlgnhfbickdaaDoorTotals.lean).
  GIVEN WITH THE SEED: the statements are not yours to turn. If you find one false, say at which input.
  Laid BY PROGRAM, IN A SANDBOX (cutbox-rows.mjs): the forced cells as the released guide's own fill.sh prints them over the translation d1b0c9bd5cd38f80… (all of the seat's roots in one cut). By AI agents, Wed Nov 11 2026. No macro, syntax, notation, axiom, sorry.
-/
import Derived.Test.YtmhlgnhfbickdaaDoorChecked
import GoSem.PinnedTables
import GoSem.Claim
import GoSem.ClaimJoined
import GoSem.ClaimMapViews
import Derived.JoinedTies
import Derived.KernelRfl
namespace Go.Proofs.YtmhlgnhfbickdaaDoor
/- THE CELL 'sum', in the pinned program and in every row, IS THE sha256 OF THE DUMP (.gsa) THAT YtmhlgnhfbickdaaDoorProg.lean LOADS. Nothing in Lean hashes anything: it is a label: what it is worth is what the hold of that sum in a sandbox is worth. -/
noncomputable def Tryd.pinned : Pinned := { name := "ytmhlgnhfbickdaadoor", sum := "d1b0c9bd5cd38f806d44c04f7b9e076b7913262f117b1f184df2f4e30cca406e", checked := Tryd.checked }
namespace Rows
def none {H : Type} : Left H := { results := [], args := [] }

/- WHAT THE LISTED PACKAGE-LEVEL VARIABLES READ AS WHEN THE CALL BEGINS. Each datum BY PROGRAM (the guide's laid-datum.mjs) off the statement by which the dump's own 'gosem.cut.vars' lays the variable. In a bare row this is a premise. The card (YtmhlgnhfbickdaaDoorCards.lean) ties it to the program's text. -/
def laid_unicode_utf8_acceptRanges {H : Type} : DataW H := .agg [.agg [.lit (.int .u8 128), .lit (.int .u8 191)], .agg [.lit (.int .u8 160), .lit (.int .u8 191)], .agg [.lit (.int .u8 128), .lit (.int .u8 159)], .agg [.lit (.int .u8 144), .lit (.int .u8 191)], .agg [.lit (.int .u8 128), .lit (.int .u8 143)], .agg [.lit (.int .u8 0), .lit (.int .u8 0)], .agg [.lit (.int .u8 0), .lit (.int .u8 0)], .agg [.lit (.int .u8 0), .lit (.int .u8 0)], .agg [.lit (.int .u8 0), .lit (.int .u8 0)], .agg [.lit (.int .u8 0), .lit (.int .u8 0)], .agg [.lit (.int .u8 0), .lit (.int .u8 0)], .agg [.lit (.int .u8 0), .lit (.int .u8 0)], .agg [.lit (.int .u8 0), .lit (.int .u8 0)], .agg [.lit (.int .u8 0), .lit (.int .u8 0)], .agg [.lit (.int .u8 0), .lit (.int .u8 0)], .agg [.lit (.int .u8 0), .lit (.int .u8 0)]]
/-- One of Go's own tables, pinned by name: the form's constant. -/
def laid_unicode_utf8_first : DataW Unit := Go.Pinned.utf8First

/-- 'skimmertop.TopPrint': WHATEVER THE INPUT: true; the input reads as it did. -/
def topPrintSpec : ChangeSpec := { name := "topPrint", fn := fun _ => fun
  | [d1, d2, d3, d4, d5] => { results := [.lit (.bool true)], args := [d1, d2, d3, d4, d5] }
  | _ => none }
def topPrintRow : OpenClaim := { program := "ytmhlgnhfbickdaadoor", sum := "d1b0c9bd5cd38f806d44c04f7b9e076b7913262f117b1f184df2f4e30cca406e", func := "skimmer/skimmertop.TopPrint", spec := "topPrint", inPlace := ["internal/bytealg.IndexByteString", "internal/bytealg.IndexString"], unfollowed := true, recurses := true, named := ["unicode/utf8.first", "unicode/utf8.acceptRanges", "internal/bytealg.MaxLen"], apart := false, laid := [("unicode/utf8.acceptRanges", laid_unicode_utf8_acceptRanges), ("unicode/utf8.first", laid_unicode_utf8_first)] }
def TopPrintSaid : Prop := topPrintRow.holds Tryd.pinned (OpenSpec.ofChange topPrintSpec)

/-- ITS FALSE NEIGHBOUR: 'it returns false'. Refute it at one input. -/
def topPrintWrong : ChangeSpec := { name := "topPrint", fn := fun _ => fun
  | [d1, d2, d3, d4, d5] => { results := [.lit (.bool false)], args := [d1, d2, d3, d4, d5] }
  | _ => none }
def TopPrintWrongFalsely : Prop := topPrintRow.holds Tryd.pinned (OpenSpec.ofChange topPrintWrong)

/-- 'skimmerlaw09.PrintTriangles': WHATEVER THE INPUT: true; the input reads as it did. -/
def printTrianglesSpec : ChangeSpec := { name := "printTriangles", fn := fun _ => fun
  | [d1, d2, d3, d4] => { results := [.lit (.bool true)], args := [d1, d2, d3, d4] }
  | _ => none }
def printTrianglesRow : OpenClaim := { program := "ytmhlgnhfbickdaadoor", sum := "d1b0c9bd5cd38f806d44c04f7b9e076b7913262f117b1f184df2f4e30cca406e", func := "skimmer/skimmerlaw09.PrintTriangles", spec := "printTriangles", inPlace := ["internal/bytealg.IndexByteString", "internal/bytealg.IndexString"], unfollowed := true, recurses := true, named := ["unicode/utf8.first", "unicode/utf8.acceptRanges", "internal/bytealg.MaxLen"], apart := false, laid := [("unicode/utf8.acceptRanges", laid_unicode_utf8_acceptRanges), ("unicode/utf8.first", laid_unicode_utf8_first)] }
def PrintTrianglesSaid : Prop := printTrianglesRow.holds Tryd.pinned (OpenSpec.ofChange printTrianglesSpec)

/-- ITS FALSE NEIGHBOUR: 'it returns false'. Refute it at one input. -/
def printTrianglesWrong : ChangeSpec := { name := "printTriangles", fn := fun _ => fun
  | [d1, d2, d3, d4] => { results := [.lit (.bool false)], args := [d1, d2, d3, d4] }
  | _ => none }
def PrintTrianglesWrongFalsely : Prop := printTrianglesRow.holds Tryd.pinned (OpenSpec.ofChange printTrianglesWrong)

/-- 'skimmerlaw09.PrintDistances': WHATEVER THE INPUT: true; the input reads as it did. -/
def printDistancesSpec : ChangeSpec := { name := "printDistances", fn := fun _ => fun
  | [d1, d2, d3] => { results := [.lit (.bool true)], args := [d1, d2, d3] }
  | _ => none }
def printDistancesRow : OpenClaim := { program := "ytmhlgnhfbickdaadoor", sum := "d1b0c9bd5cd38f806d44c04f7b9e076b7913262f117b1f184df2f4e30cca406e", func := "skimmer/skimmerlaw09.PrintDistances", spec := "printDistances", inPlace := ["internal/bytealg.IndexByteString", "internal/bytealg.IndexString"], unfollowed := true, recurses := true, named := ["unicode/utf8.first", "unicode/utf8.acceptRanges", "internal/bytealg.MaxLen"], apart := false, laid := [("unicode/utf8.acceptRanges", laid_unicode_utf8_acceptRanges), ("unicode/utf8.first", laid_unicode_utf8_first)] }
def PrintDistancesSaid : Prop := printDistancesRow.holds Tryd.pinned (OpenSpec.ofChange printDistancesSpec)

/-- ITS FALSE NEIGHBOUR: 'it returns false'. Refute it at one input. -/
def printDistancesWrong : ChangeSpec := { name := "printDistances", fn := fun _ => fun
  | [d1, d2, d3] => { results := [.lit (.bool false)], args := [d1, d2, d3] }
  | _ => none }
def PrintDistancesWrongFalsely : Prop := printDistancesRow.holds Tryd.pinned (OpenSpec.ofChange printDistancesWrong)

/-- 'skimmerlaw09.PrintEdits': WHATEVER THE INPUT: true; the input reads as it did. -/
def printEditsSpec : ChangeSpec := { name := "printEdits", fn := fun _ => fun
  | [d1, d2, d3] => { results := [.lit (.bool true)], args := [d1, d2, d3] }
  | _ => none }
def printEditsRow : OpenClaim := { program := "ytmhlgnhfbickdaadoor", sum := "d1b0c9bd5cd38f806d44c04f7b9e076b7913262f117b1f184df2f4e30cca406e", func := "skimmer/skimmerlaw09.PrintEdits", spec := "printEdits", inPlace := ["internal/bytealg.IndexByteString", "internal/bytealg.IndexString"], unfollowed := true, recurses := true, named := ["unicode/utf8.first", "unicode/utf8.acceptRanges", "internal/bytealg.MaxLen"], apart := false, laid := [("unicode/utf8.acceptRanges", laid_unicode_utf8_acceptRanges), ("unicode/utf8.first", laid_unicode_utf8_first)] }
def PrintEditsSaid : Prop := printEditsRow.holds Tryd.pinned (OpenSpec.ofChange printEditsSpec)

/-- ITS FALSE NEIGHBOUR: 'it returns false'. Refute it at one input. -/
def printEditsWrong : ChangeSpec := { name := "printEdits", fn := fun _ => fun
  | [d1, d2, d3] => { results := [.lit (.bool false)], args := [d1, d2, d3] }
  | _ => none }
def PrintEditsWrongFalsely : Prop := printEditsRow.holds Tryd.pinned (OpenSpec.ofChange printEditsWrong)

/-- 'skimmerlaw09.PrintTurns': WHATEVER THE INPUT: true; the input reads as it did. -/
def printTurnsSpec : ChangeSpec := { name := "printTurns", fn := fun _ => fun
  | [d1, d2, d3, d4] => { results := [.lit (.bool true)], args := [d1, d2, d3, d4] }
  | _ => none }
def printTurnsRow : OpenClaim := { program := "ytmhlgnhfbickdaadoor", sum := "d1b0c9bd5cd38f806d44c04f7b9e076b7913262f117b1f184df2f4e30cca406e", func := "skimmer/skimmerlaw09.PrintTurns", spec := "printTurns", inPlace := ["internal/bytealg.IndexByteString", "internal/bytealg.IndexString"], unfollowed := true, recurses := true, named := ["unicode/utf8.first", "unicode/utf8.acceptRanges", "internal/bytealg.MaxLen"], apart := false, laid := [("unicode/utf8.acceptRanges", laid_unicode_utf8_acceptRanges), ("unicode/utf8.first", laid_unicode_utf8_first)] }
def PrintTurnsSaid : Prop := printTurnsRow.holds Tryd.pinned (OpenSpec.ofChange printTurnsSpec)

/-- ITS FALSE NEIGHBOUR: 'it returns false'. Refute it at one input. -/
def printTurnsWrong : ChangeSpec := { name := "printTurns", fn := fun _ => fun
  | [d1, d2, d3, d4] => { results := [.lit (.bool false)], args := [d1, d2, d3, d4] }
  | _ => none }
def PrintTurnsWrongFalsely : Prop := printTurnsRow.holds Tryd.pinned (OpenSpec.ofChange printTurnsWrong)

/-- 'skimmerlaw09.PrintNumbers': WHATEVER THE INPUT: true; the input reads as it did. -/
def printNumbersSpec : ChangeSpec := { name := "printNumbers", fn := fun _ => fun
  | [d1, d2] => { results := [.lit (.bool true)], args := [d1, d2] }
  | _ => none }
def printNumbersRow : OpenClaim := { program := "ytmhlgnhfbickdaadoor", sum := "d1b0c9bd5cd38f806d44c04f7b9e076b7913262f117b1f184df2f4e30cca406e", func := "skimmer/skimmerlaw09.PrintNumbers", spec := "printNumbers", inPlace := ["internal/bytealg.IndexByteString", "internal/bytealg.IndexString"], unfollowed := true, recurses := true, named := ["unicode/utf8.first", "unicode/utf8.acceptRanges", "internal/bytealg.MaxLen"], apart := false, laid := [("unicode/utf8.acceptRanges", laid_unicode_utf8_acceptRanges), ("unicode/utf8.first", laid_unicode_utf8_first)] }
def PrintNumbersSaid : Prop := printNumbersRow.holds Tryd.pinned (OpenSpec.ofChange printNumbersSpec)

/-- ITS FALSE NEIGHBOUR: 'it returns false'. Refute it at one input. -/
def printNumbersWrong : ChangeSpec := { name := "printNumbers", fn := fun _ => fun
  | [d1, d2] => { results := [.lit (.bool false)], args := [d1, d2] }
  | _ => none }
def PrintNumbersWrongFalsely : Prop := printNumbersRow.holds Tryd.pinned (OpenSpec.ofChange printNumbersWrong)

/-- 'skimmerlaw09.PrintFars': WHATEVER THE INPUT: true; the input reads as it did. -/
def printFarsSpec : ChangeSpec := { name := "printFars", fn := fun _ => fun
  | [d1, d2, d3] => { results := [.lit (.bool true)], args := [d1, d2, d3] }
  | _ => none }
def printFarsRow : OpenClaim := { program := "ytmhlgnhfbickdaadoor", sum := "d1b0c9bd5cd38f806d44c04f7b9e076b7913262f117b1f184df2f4e30cca406e", func := "skimmer/skimmerlaw09.PrintFars", spec := "printFars", inPlace := ["internal/bytealg.IndexByteString", "internal/bytealg.IndexString"], unfollowed := true, recurses := true, named := ["unicode/utf8.first", "unicode/utf8.acceptRanges", "internal/bytealg.MaxLen"], apart := false, laid := [("unicode/utf8.acceptRanges", laid_unicode_utf8_acceptRanges), ("unicode/utf8.first", laid_unicode_utf8_first)] }
def PrintFarsSaid : Prop := printFarsRow.holds Tryd.pinned (OpenSpec.ofChange printFarsSpec)

/-- ITS FALSE NEIGHBOUR: 'it returns false'. Refute it at one input. -/
def printFarsWrong : ChangeSpec := { name := "printFars", fn := fun _ => fun
  | [d1, d2, d3] => { results := [.lit (.bool false)], args := [d1, d2, d3] }
  | _ => none }
def PrintFarsWrongFalsely : Prop := printFarsRow.holds Tryd.pinned (OpenSpec.ofChange printFarsWrong)

/-- 'skimmerlaw09.PrintProves': WHATEVER THE INPUT: true; the input reads as it did. -/
def printProvesSpec : ChangeSpec := { name := "printProves", fn := fun _ => fun
  | [d1, d2, d3, d4, d5] => { results := [.lit (.bool true)], args := [d1, d2, d3, d4, d5] }
  | _ => none }
def printProvesRow : OpenClaim := { program := "ytmhlgnhfbickdaadoor", sum := "d1b0c9bd5cd38f806d44c04f7b9e076b7913262f117b1f184df2f4e30cca406e", func := "skimmer/skimmerlaw09.PrintProves", spec := "printProves", inPlace := ["internal/bytealg.IndexByteString", "internal/bytealg.IndexString"], unfollowed := true, recurses := true, named := ["unicode/utf8.first", "unicode/utf8.acceptRanges", "internal/bytealg.MaxLen"], apart := false, laid := [("unicode/utf8.acceptRanges", laid_unicode_utf8_acceptRanges), ("unicode/utf8.first", laid_unicode_utf8_first)] }
def PrintProvesSaid : Prop := printProvesRow.holds Tryd.pinned (OpenSpec.ofChange printProvesSpec)

/-- ITS FALSE NEIGHBOUR: 'it returns false'. Refute it at one input. -/
def printProvesWrong : ChangeSpec := { name := "printProves", fn := fun _ => fun
  | [d1, d2, d3, d4, d5] => { results := [.lit (.bool false)], args := [d1, d2, d3, d4, d5] }
  | _ => none }
def PrintProvesWrongFalsely : Prop := printProvesRow.holds Tryd.pinned (OpenSpec.ofChange printProvesWrong)

/-- 'skimmerlaw09.PrintRows': WHATEVER THE INPUT: true; the input reads as it did. -/
def printRowsSpec : ChangeSpec := { name := "printRows", fn := fun _ => fun
  | [d1, d2, d3, d4] => { results := [.lit (.bool true)], args := [d1, d2, d3, d4] }
  | _ => none }
def printRowsRow : OpenClaim := { program := "ytmhlgnhfbickdaadoor", sum := "d1b0c9bd5cd38f806d44c04f7b9e076b7913262f117b1f184df2f4e30cca406e", func := "skimmer/skimmerlaw09.PrintRows", spec := "printRows", inPlace := ["internal/bytealg.IndexByteString", "internal/bytealg.IndexString"], unfollowed := true, recurses := true, named := ["unicode/utf8.first", "unicode/utf8.acceptRanges", "internal/bytealg.MaxLen"], apart := false, laid := [("unicode/utf8.acceptRanges", laid_unicode_utf8_acceptRanges), ("unicode/utf8.first", laid_unicode_utf8_first)] }
def PrintRowsSaid : Prop := printRowsRow.holds Tryd.pinned (OpenSpec.ofChange printRowsSpec)

/-- ITS FALSE NEIGHBOUR: 'it returns false'. Refute it at one input. -/
def printRowsWrong : ChangeSpec := { name := "printRows", fn := fun _ => fun
  | [d1, d2, d3, d4] => { results := [.lit (.bool false)], args := [d1, d2, d3, d4] }
  | _ => none }
def PrintRowsWrongFalsely : Prop := printRowsRow.holds Tryd.pinned (OpenSpec.ofChange printRowsWrong)

/-- 'skimmerlaw09.PrintAsks': WHATEVER THE INPUT: true; the input reads as it did. -/
def printAsksSpec : ChangeSpec := { name := "printAsks", fn := fun _ => fun
  | [d1, d2, d3, d4] => { results := [.lit (.bool true)], args := [d1, d2, d3, d4] }
  | _ => none }
def printAsksRow : OpenClaim := { program := "ytmhlgnhfbickdaadoor", sum := "d1b0c9bd5cd38f806d44c04f7b9e076b7913262f117b1f184df2f4e30cca406e", func := "skimmer/skimmerlaw09.PrintAsks", spec := "printAsks", inPlace := ["internal/bytealg.IndexByteString", "internal/bytealg.IndexString"], unfollowed := true, recurses := true, named := ["unicode/utf8.first", "unicode/utf8.acceptRanges", "internal/bytealg.MaxLen"], apart := false, laid := [("unicode/utf8.acceptRanges", laid_unicode_utf8_acceptRanges), ("unicode/utf8.first", laid_unicode_utf8_first)] }
def PrintAsksSaid : Prop := printAsksRow.holds Tryd.pinned (OpenSpec.ofChange printAsksSpec)

/-- ITS FALSE NEIGHBOUR: 'it returns false'. Refute it at one input. -/
def printAsksWrong : ChangeSpec := { name := "printAsks", fn := fun _ => fun
  | [d1, d2, d3, d4] => { results := [.lit (.bool false)], args := [d1, d2, d3, d4] }
  | _ => none }
def PrintAsksWrongFalsely : Prop := printAsksRow.holds Tryd.pinned (OpenSpec.ofChange printAsksWrong)

/-- 'skimmerlaw09.PrintBacks': WHATEVER THE INPUT: true; the input reads as it did. -/
def printBacksSpec : ChangeSpec := { name := "printBacks", fn := fun _ => fun
  | [d1, d2, d3, d4] => { results := [.lit (.bool true)], args := [d1, d2, d3, d4] }
  | _ => none }
def printBacksRow : OpenClaim := { program := "ytmhlgnhfbickdaadoor", sum := "d1b0c9bd5cd38f806d44c04f7b9e076b7913262f117b1f184df2f4e30cca406e", func := "skimmer/skimmerlaw09.PrintBacks", spec := "printBacks", inPlace := ["internal/bytealg.IndexByteString", "internal/bytealg.IndexString"], unfollowed := true, recurses := true, named := ["unicode/utf8.first", "unicode/utf8.acceptRanges", "internal/bytealg.MaxLen"], apart := false, laid := [("unicode/utf8.acceptRanges", laid_unicode_utf8_acceptRanges), ("unicode/utf8.first", laid_unicode_utf8_first)] }
def PrintBacksSaid : Prop := printBacksRow.holds Tryd.pinned (OpenSpec.ofChange printBacksSpec)

/-- ITS FALSE NEIGHBOUR: 'it returns false'. Refute it at one input. -/
def printBacksWrong : ChangeSpec := { name := "printBacks", fn := fun _ => fun
  | [d1, d2, d3, d4] => { results := [.lit (.bool false)], args := [d1, d2, d3, d4] }
  | _ => none }
def PrintBacksWrongFalsely : Prop := printBacksRow.holds Tryd.pinned (OpenSpec.ofChange printBacksWrong)

/-- 'skimmerlaw09.PrintCommons': WHATEVER THE INPUT: true; the input reads as it did. -/
def printCommonsSpec : ChangeSpec := { name := "printCommons", fn := fun _ => fun
  | [d1, d2, d3] => { results := [.lit (.bool true)], args := [d1, d2, d3] }
  | _ => none }
def printCommonsRow : OpenClaim := { program := "ytmhlgnhfbickdaadoor", sum := "d1b0c9bd5cd38f806d44c04f7b9e076b7913262f117b1f184df2f4e30cca406e", func := "skimmer/skimmerlaw09.PrintCommons", spec := "printCommons", inPlace := ["internal/bytealg.IndexByteString", "internal/bytealg.IndexString"], unfollowed := true, recurses := true, named := ["unicode/utf8.first", "unicode/utf8.acceptRanges", "internal/bytealg.MaxLen"], apart := false, laid := [("unicode/utf8.acceptRanges", laid_unicode_utf8_acceptRanges), ("unicode/utf8.first", laid_unicode_utf8_first)] }
def PrintCommonsSaid : Prop := printCommonsRow.holds Tryd.pinned (OpenSpec.ofChange printCommonsSpec)

/-- ITS FALSE NEIGHBOUR: 'it returns false'. Refute it at one input. -/
def printCommonsWrong : ChangeSpec := { name := "printCommons", fn := fun _ => fun
  | [d1, d2, d3] => { results := [.lit (.bool false)], args := [d1, d2, d3] }
  | _ => none }
def PrintCommonsWrongFalsely : Prop := printCommonsRow.holds Tryd.pinned (OpenSpec.ofChange printCommonsWrong)

/-- 'skimmerlaw09.PrintOthers': WHATEVER THE INPUT: true; the input reads as it did. -/
def printOthersSpec : ChangeSpec := { name := "printOthers", fn := fun _ => fun
  | [d1, d2, d3, d4] => { results := [.lit (.bool true)], args := [d1, d2, d3, d4] }
  | _ => none }
def printOthersRow : OpenClaim := { program := "ytmhlgnhfbickdaadoor", sum := "d1b0c9bd5cd38f806d44c04f7b9e076b7913262f117b1f184df2f4e30cca406e", func := "skimmer/skimmerlaw09.PrintOthers", spec := "printOthers", inPlace := ["internal/bytealg.IndexByteString", "internal/bytealg.IndexString"], unfollowed := true, recurses := true, named := ["unicode/utf8.first", "unicode/utf8.acceptRanges", "internal/bytealg.MaxLen"], apart := false, laid := [("unicode/utf8.acceptRanges", laid_unicode_utf8_acceptRanges), ("unicode/utf8.first", laid_unicode_utf8_first)] }
def PrintOthersSaid : Prop := printOthersRow.holds Tryd.pinned (OpenSpec.ofChange printOthersSpec)

/-- ITS FALSE NEIGHBOUR: 'it returns false'. Refute it at one input. -/
def printOthersWrong : ChangeSpec := { name := "printOthers", fn := fun _ => fun
  | [d1, d2, d3, d4] => { results := [.lit (.bool false)], args := [d1, d2, d3, d4] }
  | _ => none }
def PrintOthersWrongFalsely : Prop := printOthersRow.holds Tryd.pinned (OpenSpec.ofChange printOthersWrong)

/-- 'skimmerlaw09.PrintNears': WHATEVER THE INPUT: true; the input reads as it did. -/
def printNearsSpec : ChangeSpec := { name := "printNears", fn := fun _ => fun
  | [d1, d2, d3, d4] => { results := [.lit (.bool true)], args := [d1, d2, d3, d4] }
  | _ => none }
def printNearsRow : OpenClaim := { program := "ytmhlgnhfbickdaadoor", sum := "d1b0c9bd5cd38f806d44c04f7b9e076b7913262f117b1f184df2f4e30cca406e", func := "skimmer/skimmerlaw09.PrintNears", spec := "printNears", inPlace := ["internal/bytealg.IndexByteString", "internal/bytealg.IndexString"], unfollowed := true, recurses := true, named := ["unicode/utf8.first", "unicode/utf8.acceptRanges", "internal/bytealg.MaxLen"], apart := false, laid := [("unicode/utf8.acceptRanges", laid_unicode_utf8_acceptRanges), ("unicode/utf8.first", laid_unicode_utf8_first)] }
def PrintNearsSaid : Prop := printNearsRow.holds Tryd.pinned (OpenSpec.ofChange printNearsSpec)

/-- ITS FALSE NEIGHBOUR: 'it returns false'. Refute it at one input. -/
def printNearsWrong : ChangeSpec := { name := "printNears", fn := fun _ => fun
  | [d1, d2, d3, d4] => { results := [.lit (.bool false)], args := [d1, d2, d3, d4] }
  | _ => none }
def PrintNearsWrongFalsely : Prop := printNearsRow.holds Tryd.pinned (OpenSpec.ofChange printNearsWrong)

/-- 'skimmerlaw09.PrintProofs': WHATEVER THE INPUT: true; the input reads as it did. -/
def printProofsSpec : ChangeSpec := { name := "printProofs", fn := fun _ => fun
  | [d1, d2, d3, d4, d5] => { results := [.lit (.bool true)], args := [d1, d2, d3, d4, d5] }
  | _ => none }
def printProofsRow : OpenClaim := { program := "ytmhlgnhfbickdaadoor", sum := "d1b0c9bd5cd38f806d44c04f7b9e076b7913262f117b1f184df2f4e30cca406e", func := "skimmer/skimmerlaw09.PrintProofs", spec := "printProofs", inPlace := ["internal/bytealg.IndexByteString", "internal/bytealg.IndexString"], unfollowed := true, recurses := true, named := ["unicode/utf8.first", "unicode/utf8.acceptRanges", "internal/bytealg.MaxLen"], apart := false, laid := [("unicode/utf8.acceptRanges", laid_unicode_utf8_acceptRanges), ("unicode/utf8.first", laid_unicode_utf8_first)] }
def PrintProofsSaid : Prop := printProofsRow.holds Tryd.pinned (OpenSpec.ofChange printProofsSpec)

/-- ITS FALSE NEIGHBOUR: 'it returns false'. Refute it at one input. -/
def printProofsWrong : ChangeSpec := { name := "printProofs", fn := fun _ => fun
  | [d1, d2, d3, d4, d5] => { results := [.lit (.bool false)], args := [d1, d2, d3, d4, d5] }
  | _ => none }
def PrintProofsWrongFalsely : Prop := printProofsRow.holds Tryd.pinned (OpenSpec.ofChange printProofsWrong)

/- THE SECOND FORM. 'bulk': how many values and letters a reading holds, each counted each time it is reached (what is shared counts as often as it is met; a slice's spare places count too). A statement '..UptoSaid' is the law's where the arguments, and the package variables that the reading takes, are together of bulk at most 1048576: NARROWER than '..Said'. Prove '..Said' where nothing that the law and all that it calls make is longer than what came in: it says more and counts as full. Else prove '..UptoSaid'. A law counts once. -/
mutual
def uptoBulk {H : Type} : DataW H → Nat
  | .lit (.string bytes) => bytes.length + 1
  | .lit _ => 1
  | .nil => 1
  | .ptr d => uptoBulk d + 1
  | .slice elems spare => uptoBulkAll elems + uptoBulkAll spare + 1
  | .agg parts => uptoBulkAll parts + 1
  | .iface _ d => uptoBulk d + 1
  | .map entries => uptoBulkEntries entries + 1
  | .held _ => 1
def uptoBulkAll {H : Type} : List (DataW H) → Nat
  | [] => 0
  | d :: r => uptoBulk d + uptoBulkAll r
def uptoBulkEntries {H : Type} : List (Lit × DataW H) → Nat
  | [] => 0
  | x :: r => uptoBulkEntry x + uptoBulkEntries r
def uptoBulkEntry {H : Type} : Lit × DataW H → Nat
  | (.string bytes, d) => bytes.length + uptoBulk d + 1
  | (_, d) => uptoBulk d + 1
 end
def uptoSmall : (H : Type) → List (DataW H) → Bool := fun _ ds => decide (uptoBulkAll ds ≤ 1048576)
def OpenSpec.upto (s : _root_.Go.ChangeSpec) : _root_.Go.OpenSpec := { _root_.Go.OpenSpec.ofChange s with cond := some uptoSmall }

/-- 'skimmertop.TopPrint', WHERE WHAT IT READS IS OF BULK AT MOST 1048576: true; the input reads as it did. -/
def topPrintUptoRow : OpenClaim := { program := "ytmhlgnhfbickdaadoor", sum := "d1b0c9bd5cd38f806d44c04f7b9e076b7913262f117b1f184df2f4e30cca406e", func := "skimmer/skimmertop.TopPrint", spec := "topPrint", inPlace := ["internal/bytealg.IndexByteString", "internal/bytealg.IndexString"], unfollowed := true, recurses := true, named := ["unicode/utf8.first", "unicode/utf8.acceptRanges", "internal/bytealg.MaxLen"], apart := false, laid := [("unicode/utf8.acceptRanges", laid_unicode_utf8_acceptRanges), ("unicode/utf8.first", laid_unicode_utf8_first)], narrowed := true }
def TopPrintUptoSaid : Prop := topPrintUptoRow.holds Tryd.pinned (OpenSpec.upto topPrintSpec)

/-- 'skimmerlaw09.PrintTriangles', WHERE WHAT IT READS IS OF BULK AT MOST 1048576: true; the input reads as it did. -/
def printTrianglesUptoRow : OpenClaim := { program := "ytmhlgnhfbickdaadoor", sum := "d1b0c9bd5cd38f806d44c04f7b9e076b7913262f117b1f184df2f4e30cca406e", func := "skimmer/skimmerlaw09.PrintTriangles", spec := "printTriangles", inPlace := ["internal/bytealg.IndexByteString", "internal/bytealg.IndexString"], unfollowed := true, recurses := true, named := ["unicode/utf8.first", "unicode/utf8.acceptRanges", "internal/bytealg.MaxLen"], apart := false, laid := [("unicode/utf8.acceptRanges", laid_unicode_utf8_acceptRanges), ("unicode/utf8.first", laid_unicode_utf8_first)], narrowed := true }
def PrintTrianglesUptoSaid : Prop := printTrianglesUptoRow.holds Tryd.pinned (OpenSpec.upto printTrianglesSpec)

/-- 'skimmerlaw09.PrintDistances', WHERE WHAT IT READS IS OF BULK AT MOST 1048576: true; the input reads as it did. -/
def printDistancesUptoRow : OpenClaim := { program := "ytmhlgnhfbickdaadoor", sum := "d1b0c9bd5cd38f806d44c04f7b9e076b7913262f117b1f184df2f4e30cca406e", func := "skimmer/skimmerlaw09.PrintDistances", spec := "printDistances", inPlace := ["internal/bytealg.IndexByteString", "internal/bytealg.IndexString"], unfollowed := true, recurses := true, named := ["unicode/utf8.first", "unicode/utf8.acceptRanges", "internal/bytealg.MaxLen"], apart := false, laid := [("unicode/utf8.acceptRanges", laid_unicode_utf8_acceptRanges), ("unicode/utf8.first", laid_unicode_utf8_first)], narrowed := true }
def PrintDistancesUptoSaid : Prop := printDistancesUptoRow.holds Tryd.pinned (OpenSpec.upto printDistancesSpec)

/-- 'skimmerlaw09.PrintEdits', WHERE WHAT IT READS IS OF BULK AT MOST 1048576: true; the input reads as it did. -/
def printEditsUptoRow : OpenClaim := { program := "ytmhlgnhfbickdaadoor", sum := "d1b0c9bd5cd38f806d44c04f7b9e076b7913262f117b1f184df2f4e30cca406e", func := "skimmer/skimmerlaw09.PrintEdits", spec := "printEdits", inPlace := ["internal/bytealg.IndexByteString", "internal/bytealg.IndexString"], unfollowed := true, recurses := true, named := ["unicode/utf8.first", "unicode/utf8.acceptRanges", "internal/bytealg.MaxLen"], apart := false, laid := [("unicode/utf8.acceptRanges", laid_unicode_utf8_acceptRanges), ("unicode/utf8.first", laid_unicode_utf8_first)], narrowed := true }
def PrintEditsUptoSaid : Prop := printEditsUptoRow.holds Tryd.pinned (OpenSpec.upto printEditsSpec)

/-- 'skimmerlaw09.PrintTurns', WHERE WHAT IT READS IS OF BULK AT MOST 1048576: true; the input reads as it did. -/
def printTurnsUptoRow : OpenClaim := { program := "ytmhlgnhfbickdaadoor", sum := "d1b0c9bd5cd38f806d44c04f7b9e076b7913262f117b1f184df2f4e30cca406e", func := "skimmer/skimmerlaw09.PrintTurns", spec := "printTurns", inPlace := ["internal/bytealg.IndexByteString", "internal/bytealg.IndexString"], unfollowed := true, recurses := true, named := ["unicode/utf8.first", "unicode/utf8.acceptRanges", "internal/bytealg.MaxLen"], apart := false, laid := [("unicode/utf8.acceptRanges", laid_unicode_utf8_acceptRanges), ("unicode/utf8.first", laid_unicode_utf8_first)], narrowed := true }
def PrintTurnsUptoSaid : Prop := printTurnsUptoRow.holds Tryd.pinned (OpenSpec.upto printTurnsSpec)

/-- 'skimmerlaw09.PrintNumbers', WHERE WHAT IT READS IS OF BULK AT MOST 1048576: true; the input reads as it did. -/
def printNumbersUptoRow : OpenClaim := { program := "ytmhlgnhfbickdaadoor", sum := "d1b0c9bd5cd38f806d44c04f7b9e076b7913262f117b1f184df2f4e30cca406e", func := "skimmer/skimmerlaw09.PrintNumbers", spec := "printNumbers", inPlace := ["internal/bytealg.IndexByteString", "internal/bytealg.IndexString"], unfollowed := true, recurses := true, named := ["unicode/utf8.first", "unicode/utf8.acceptRanges", "internal/bytealg.MaxLen"], apart := false, laid := [("unicode/utf8.acceptRanges", laid_unicode_utf8_acceptRanges), ("unicode/utf8.first", laid_unicode_utf8_first)], narrowed := true }
def PrintNumbersUptoSaid : Prop := printNumbersUptoRow.holds Tryd.pinned (OpenSpec.upto printNumbersSpec)

/-- 'skimmerlaw09.PrintFars', WHERE WHAT IT READS IS OF BULK AT MOST 1048576: true; the input reads as it did. -/
def printFarsUptoRow : OpenClaim := { program := "ytmhlgnhfbickdaadoor", sum := "d1b0c9bd5cd38f806d44c04f7b9e076b7913262f117b1f184df2f4e30cca406e", func := "skimmer/skimmerlaw09.PrintFars", spec := "printFars", inPlace := ["internal/bytealg.IndexByteString", "internal/bytealg.IndexString"], unfollowed := true, recurses := true, named := ["unicode/utf8.first", "unicode/utf8.acceptRanges", "internal/bytealg.MaxLen"], apart := false, laid := [("unicode/utf8.acceptRanges", laid_unicode_utf8_acceptRanges), ("unicode/utf8.first", laid_unicode_utf8_first)], narrowed := true }
def PrintFarsUptoSaid : Prop := printFarsUptoRow.holds Tryd.pinned (OpenSpec.upto printFarsSpec)

/-- 'skimmerlaw09.PrintProves', WHERE WHAT IT READS IS OF BULK AT MOST 1048576: true; the input reads as it did. -/
def printProvesUptoRow : OpenClaim := { program := "ytmhlgnhfbickdaadoor", sum := "d1b0c9bd5cd38f806d44c04f7b9e076b7913262f117b1f184df2f4e30cca406e", func := "skimmer/skimmerlaw09.PrintProves", spec := "printProves", inPlace := ["internal/bytealg.IndexByteString", "internal/bytealg.IndexString"], unfollowed := true, recurses := true, named := ["unicode/utf8.first", "unicode/utf8.acceptRanges", "internal/bytealg.MaxLen"], apart := false, laid := [("unicode/utf8.acceptRanges", laid_unicode_utf8_acceptRanges), ("unicode/utf8.first", laid_unicode_utf8_first)], narrowed := true }
def PrintProvesUptoSaid : Prop := printProvesUptoRow.holds Tryd.pinned (OpenSpec.upto printProvesSpec)

/-- 'skimmerlaw09.PrintRows', WHERE WHAT IT READS IS OF BULK AT MOST 1048576: true; the input reads as it did. -/
def printRowsUptoRow : OpenClaim := { program := "ytmhlgnhfbickdaadoor", sum := "d1b0c9bd5cd38f806d44c04f7b9e076b7913262f117b1f184df2f4e30cca406e", func := "skimmer/skimmerlaw09.PrintRows", spec := "printRows", inPlace := ["internal/bytealg.IndexByteString", "internal/bytealg.IndexString"], unfollowed := true, recurses := true, named := ["unicode/utf8.first", "unicode/utf8.acceptRanges", "internal/bytealg.MaxLen"], apart := false, laid := [("unicode/utf8.acceptRanges", laid_unicode_utf8_acceptRanges), ("unicode/utf8.first", laid_unicode_utf8_first)], narrowed := true }
def PrintRowsUptoSaid : Prop := printRowsUptoRow.holds Tryd.pinned (OpenSpec.upto printRowsSpec)

/-- 'skimmerlaw09.PrintAsks', WHERE WHAT IT READS IS OF BULK AT MOST 1048576: true; the input reads as it did. -/
def printAsksUptoRow : OpenClaim := { program := "ytmhlgnhfbickdaadoor", sum := "d1b0c9bd5cd38f806d44c04f7b9e076b7913262f117b1f184df2f4e30cca406e", func := "skimmer/skimmerlaw09.PrintAsks", spec := "printAsks", inPlace := ["internal/bytealg.IndexByteString", "internal/bytealg.IndexString"], unfollowed := true, recurses := true, named := ["unicode/utf8.first", "unicode/utf8.acceptRanges", "internal/bytealg.MaxLen"], apart := false, laid := [("unicode/utf8.acceptRanges", laid_unicode_utf8_acceptRanges), ("unicode/utf8.first", laid_unicode_utf8_first)], narrowed := true }
def PrintAsksUptoSaid : Prop := printAsksUptoRow.holds Tryd.pinned (OpenSpec.upto printAsksSpec)

/-- 'skimmerlaw09.PrintBacks', WHERE WHAT IT READS IS OF BULK AT MOST 1048576: true; the input reads as it did. -/
def printBacksUptoRow : OpenClaim := { program := "ytmhlgnhfbickdaadoor", sum := "d1b0c9bd5cd38f806d44c04f7b9e076b7913262f117b1f184df2f4e30cca406e", func := "skimmer/skimmerlaw09.PrintBacks", spec := "printBacks", inPlace := ["internal/bytealg.IndexByteString", "internal/bytealg.IndexString"], unfollowed := true, recurses := true, named := ["unicode/utf8.first", "unicode/utf8.acceptRanges", "internal/bytealg.MaxLen"], apart := false, laid := [("unicode/utf8.acceptRanges", laid_unicode_utf8_acceptRanges), ("unicode/utf8.first", laid_unicode_utf8_first)], narrowed := true }
def PrintBacksUptoSaid : Prop := printBacksUptoRow.holds Tryd.pinned (OpenSpec.upto printBacksSpec)

/-- 'skimmerlaw09.PrintCommons', WHERE WHAT IT READS IS OF BULK AT MOST 1048576: true; the input reads as it did. -/
def printCommonsUptoRow : OpenClaim := { program := "ytmhlgnhfbickdaadoor", sum := "d1b0c9bd5cd38f806d44c04f7b9e076b7913262f117b1f184df2f4e30cca406e", func := "skimmer/skimmerlaw09.PrintCommons", spec := "printCommons", inPlace := ["internal/bytealg.IndexByteString", "internal/bytealg.IndexString"], unfollowed := true, recurses := true, named := ["unicode/utf8.first", "unicode/utf8.acceptRanges", "internal/bytealg.MaxLen"], apart := false, laid := [("unicode/utf8.acceptRanges", laid_unicode_utf8_acceptRanges), ("unicode/utf8.first", laid_unicode_utf8_first)], narrowed := true }
def PrintCommonsUptoSaid : Prop := printCommonsUptoRow.holds Tryd.pinned (OpenSpec.upto printCommonsSpec)

/-- 'skimmerlaw09.PrintOthers', WHERE WHAT IT READS IS OF BULK AT MOST 1048576: true; the input reads as it did. -/
def printOthersUptoRow : OpenClaim := { program := "ytmhlgnhfbickdaadoor", sum := "d1b0c9bd5cd38f806d44c04f7b9e076b7913262f117b1f184df2f4e30cca406e", func := "skimmer/skimmerlaw09.PrintOthers", spec := "printOthers", inPlace := ["internal/bytealg.IndexByteString", "internal/bytealg.IndexString"], unfollowed := true, recurses := true, named := ["unicode/utf8.first", "unicode/utf8.acceptRanges", "internal/bytealg.MaxLen"], apart := false, laid := [("unicode/utf8.acceptRanges", laid_unicode_utf8_acceptRanges), ("unicode/utf8.first", laid_unicode_utf8_first)], narrowed := true }
def PrintOthersUptoSaid : Prop := printOthersUptoRow.holds Tryd.pinned (OpenSpec.upto printOthersSpec)

/-- 'skimmerlaw09.PrintNears', WHERE WHAT IT READS IS OF BULK AT MOST 1048576: true; the input reads as it did. -/
def printNearsUptoRow : OpenClaim := { program := "ytmhlgnhfbickdaadoor", sum := "d1b0c9bd5cd38f806d44c04f7b9e076b7913262f117b1f184df2f4e30cca406e", func := "skimmer/skimmerlaw09.PrintNears", spec := "printNears", inPlace := ["internal/bytealg.IndexByteString", "internal/bytealg.IndexString"], unfollowed := true, recurses := true, named := ["unicode/utf8.first", "unicode/utf8.acceptRanges", "internal/bytealg.MaxLen"], apart := false, laid := [("unicode/utf8.acceptRanges", laid_unicode_utf8_acceptRanges), ("unicode/utf8.first", laid_unicode_utf8_first)], narrowed := true }
def PrintNearsUptoSaid : Prop := printNearsUptoRow.holds Tryd.pinned (OpenSpec.upto printNearsSpec)

/-- 'skimmerlaw09.PrintProofs', WHERE WHAT IT READS IS OF BULK AT MOST 1048576: true; the input reads as it did. -/
def printProofsUptoRow : OpenClaim := { program := "ytmhlgnhfbickdaadoor", sum := "d1b0c9bd5cd38f806d44c04f7b9e076b7913262f117b1f184df2f4e30cca406e", func := "skimmer/skimmerlaw09.PrintProofs", spec := "printProofs", inPlace := ["internal/bytealg.IndexByteString", "internal/bytealg.IndexString"], unfollowed := true, recurses := true, named := ["unicode/utf8.first", "unicode/utf8.acceptRanges", "internal/bytealg.MaxLen"], apart := false, laid := [("unicode/utf8.acceptRanges", laid_unicode_utf8_acceptRanges), ("unicode/utf8.first", laid_unicode_utf8_first)], narrowed := true }
def PrintProofsUptoSaid : Prop := printProofsUptoRow.holds Tryd.pinned (OpenSpec.upto printProofsSpec)

end Rows
end Go.Proofs.YtmhlgnhfbickdaaDoor
