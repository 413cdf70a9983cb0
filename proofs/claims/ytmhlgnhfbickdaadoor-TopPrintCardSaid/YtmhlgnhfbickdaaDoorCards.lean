/-
  DERIVED. GIVEN WITH THE SEED: THE CARDS: each row of YtmhlgnhfbickdaaDoorRows.lean that lists a variable, with what it lists TIED to the program's text (the seventh form; the later family's looks); each row that meets fmt, with fmt's text TOLD by the authors' own Lean function (tested against real Go, not proved from fmt's source: count such statements apart). THE CARD IS WHAT COUNTS. Prove the row's statement (the work); the ties are given (YtmhlgnhfbickdaaDoorTie.lean); close each card by the builder's one call (the guide's Derived/Test/ToyasCard.lean, 'card_holds'). Laid BY PROGRAM, IN A SANDBOX (cutbox-door.mjs). By AI agents, Wed Nov 11 2026. No macro, syntax, notation, axiom, sorry.
-/
import Derived.Test.YtmhlgnhfbickdaaDoorRows
import GoSem.ClaimSeven
namespace Go.Proofs.YtmhlgnhfbickdaaDoor
namespace Rows

/-- THE TIED CARD OF 'skimmertop.TopPrint'. -/
def topPrintCard : Claim7 := { stood := { row := topPrintRow, standIns := [], harness := (true, "8aef5e0eb991f7b7f1e225a96da25e1ea5e3b5cf2a5c27c154d3d8c9ad608907"), looks := false }, kinds := [], alts := [], laidByText := true, laidKinds := [.data, .pinned], laidTests := true, laidLooks := .later }
def TopPrintCardSaid : Prop := Claim7.holds Tryd.pinned (.plain (OpenSpec.ofChange topPrintSpec)) topPrintCard

/-- THE TIED CARD OF 'skimmerlaw09.PrintTriangles'. -/
def printTrianglesCard : Claim7 := { stood := { row := printTrianglesRow, standIns := [], harness := (true, "8aef5e0eb991f7b7f1e225a96da25e1ea5e3b5cf2a5c27c154d3d8c9ad608907"), looks := false }, kinds := [], alts := [], laidByText := true, laidKinds := [.data, .pinned], laidTests := true, laidLooks := .later }
def PrintTrianglesCardSaid : Prop := Claim7.holds Tryd.pinned (.plain (OpenSpec.ofChange printTrianglesSpec)) printTrianglesCard

/-- THE TIED CARD OF 'skimmerlaw09.PrintDistances'. -/
def printDistancesCard : Claim7 := { stood := { row := printDistancesRow, standIns := [], harness := (true, "8aef5e0eb991f7b7f1e225a96da25e1ea5e3b5cf2a5c27c154d3d8c9ad608907"), looks := false }, kinds := [], alts := [], laidByText := true, laidKinds := [.data, .pinned], laidTests := true, laidLooks := .later }
def PrintDistancesCardSaid : Prop := Claim7.holds Tryd.pinned (.plain (OpenSpec.ofChange printDistancesSpec)) printDistancesCard

/-- THE TIED CARD OF 'skimmerlaw09.PrintEdits'. -/
def printEditsCard : Claim7 := { stood := { row := printEditsRow, standIns := [], harness := (true, "8aef5e0eb991f7b7f1e225a96da25e1ea5e3b5cf2a5c27c154d3d8c9ad608907"), looks := false }, kinds := [], alts := [], laidByText := true, laidKinds := [.data, .pinned], laidTests := true, laidLooks := .later }
def PrintEditsCardSaid : Prop := Claim7.holds Tryd.pinned (.plain (OpenSpec.ofChange printEditsSpec)) printEditsCard

/-- THE TIED CARD OF 'skimmerlaw09.PrintTurns'. -/
def printTurnsCard : Claim7 := { stood := { row := printTurnsRow, standIns := [], harness := (true, "8aef5e0eb991f7b7f1e225a96da25e1ea5e3b5cf2a5c27c154d3d8c9ad608907"), looks := false }, kinds := [], alts := [], laidByText := true, laidKinds := [.data, .pinned], laidTests := true, laidLooks := .later }
def PrintTurnsCardSaid : Prop := Claim7.holds Tryd.pinned (.plain (OpenSpec.ofChange printTurnsSpec)) printTurnsCard

/-- THE TIED CARD OF 'skimmerlaw09.PrintNumbers'. -/
def printNumbersCard : Claim7 := { stood := { row := printNumbersRow, standIns := [], harness := (true, "8aef5e0eb991f7b7f1e225a96da25e1ea5e3b5cf2a5c27c154d3d8c9ad608907"), looks := false }, kinds := [], alts := [], laidByText := true, laidKinds := [.data, .pinned], laidTests := true, laidLooks := .later }
def PrintNumbersCardSaid : Prop := Claim7.holds Tryd.pinned (.plain (OpenSpec.ofChange printNumbersSpec)) printNumbersCard

/-- THE TIED CARD OF 'skimmerlaw09.PrintFars'. -/
def printFarsCard : Claim7 := { stood := { row := printFarsRow, standIns := [], harness := (true, "8aef5e0eb991f7b7f1e225a96da25e1ea5e3b5cf2a5c27c154d3d8c9ad608907"), looks := false }, kinds := [], alts := [], laidByText := true, laidKinds := [.data, .pinned], laidTests := true, laidLooks := .later }
def PrintFarsCardSaid : Prop := Claim7.holds Tryd.pinned (.plain (OpenSpec.ofChange printFarsSpec)) printFarsCard

/-- THE TIED CARD OF 'skimmerlaw09.PrintProves'. -/
def printProvesCard : Claim7 := { stood := { row := printProvesRow, standIns := [], harness := (true, "8aef5e0eb991f7b7f1e225a96da25e1ea5e3b5cf2a5c27c154d3d8c9ad608907"), looks := false }, kinds := [], alts := [], laidByText := true, laidKinds := [.data, .pinned], laidTests := true, laidLooks := .later }
def PrintProvesCardSaid : Prop := Claim7.holds Tryd.pinned (.plain (OpenSpec.ofChange printProvesSpec)) printProvesCard

/-- THE TIED CARD OF 'skimmerlaw09.PrintRows'. -/
def printRowsCard : Claim7 := { stood := { row := printRowsRow, standIns := [], harness := (true, "8aef5e0eb991f7b7f1e225a96da25e1ea5e3b5cf2a5c27c154d3d8c9ad608907"), looks := false }, kinds := [], alts := [], laidByText := true, laidKinds := [.data, .pinned], laidTests := true, laidLooks := .later }
def PrintRowsCardSaid : Prop := Claim7.holds Tryd.pinned (.plain (OpenSpec.ofChange printRowsSpec)) printRowsCard

/-- THE TIED CARD OF 'skimmerlaw09.PrintAsks'. -/
def printAsksCard : Claim7 := { stood := { row := printAsksRow, standIns := [], harness := (true, "8aef5e0eb991f7b7f1e225a96da25e1ea5e3b5cf2a5c27c154d3d8c9ad608907"), looks := false }, kinds := [], alts := [], laidByText := true, laidKinds := [.data, .pinned], laidTests := true, laidLooks := .later }
def PrintAsksCardSaid : Prop := Claim7.holds Tryd.pinned (.plain (OpenSpec.ofChange printAsksSpec)) printAsksCard

/-- THE TIED CARD OF 'skimmerlaw09.PrintBacks'. -/
def printBacksCard : Claim7 := { stood := { row := printBacksRow, standIns := [], harness := (true, "8aef5e0eb991f7b7f1e225a96da25e1ea5e3b5cf2a5c27c154d3d8c9ad608907"), looks := false }, kinds := [], alts := [], laidByText := true, laidKinds := [.data, .pinned], laidTests := true, laidLooks := .later }
def PrintBacksCardSaid : Prop := Claim7.holds Tryd.pinned (.plain (OpenSpec.ofChange printBacksSpec)) printBacksCard

/-- THE TIED CARD OF 'skimmerlaw09.PrintCommons'. -/
def printCommonsCard : Claim7 := { stood := { row := printCommonsRow, standIns := [], harness := (true, "8aef5e0eb991f7b7f1e225a96da25e1ea5e3b5cf2a5c27c154d3d8c9ad608907"), looks := false }, kinds := [], alts := [], laidByText := true, laidKinds := [.data, .pinned], laidTests := true, laidLooks := .later }
def PrintCommonsCardSaid : Prop := Claim7.holds Tryd.pinned (.plain (OpenSpec.ofChange printCommonsSpec)) printCommonsCard

/-- THE TIED CARD OF 'skimmerlaw09.PrintOthers'. -/
def printOthersCard : Claim7 := { stood := { row := printOthersRow, standIns := [], harness := (true, "8aef5e0eb991f7b7f1e225a96da25e1ea5e3b5cf2a5c27c154d3d8c9ad608907"), looks := false }, kinds := [], alts := [], laidByText := true, laidKinds := [.data, .pinned], laidTests := true, laidLooks := .later }
def PrintOthersCardSaid : Prop := Claim7.holds Tryd.pinned (.plain (OpenSpec.ofChange printOthersSpec)) printOthersCard

/-- THE TIED CARD OF 'skimmerlaw09.PrintNears'. -/
def printNearsCard : Claim7 := { stood := { row := printNearsRow, standIns := [], harness := (true, "8aef5e0eb991f7b7f1e225a96da25e1ea5e3b5cf2a5c27c154d3d8c9ad608907"), looks := false }, kinds := [], alts := [], laidByText := true, laidKinds := [.data, .pinned], laidTests := true, laidLooks := .later }
def PrintNearsCardSaid : Prop := Claim7.holds Tryd.pinned (.plain (OpenSpec.ofChange printNearsSpec)) printNearsCard

/-- THE TIED CARD OF 'skimmerlaw09.PrintProofs'. -/
def printProofsCard : Claim7 := { stood := { row := printProofsRow, standIns := [], harness := (true, "8aef5e0eb991f7b7f1e225a96da25e1ea5e3b5cf2a5c27c154d3d8c9ad608907"), looks := false }, kinds := [], alts := [], laidByText := true, laidKinds := [.data, .pinned], laidTests := true, laidLooks := .later }
def PrintProofsCardSaid : Prop := Claim7.holds Tryd.pinned (.plain (OpenSpec.ofChange printProofsSpec)) printProofsCard

/-- THE SECOND FORM's CARD OF 'skimmertop.TopPrint'. -/
def topPrintUptoCard : Claim7 := { stood := { row := topPrintUptoRow, standIns := [], harness := (true, "8aef5e0eb991f7b7f1e225a96da25e1ea5e3b5cf2a5c27c154d3d8c9ad608907"), looks := false }, kinds := [], alts := [], laidByText := true, laidKinds := [.data, .pinned], laidTests := true, laidLooks := .later }
def TopPrintUptoCardSaid : Prop := Claim7.holds Tryd.pinned (.plain (OpenSpec.upto topPrintSpec)) topPrintUptoCard

/-- THE SECOND FORM's CARD OF 'skimmerlaw09.PrintTriangles'. -/
def printTrianglesUptoCard : Claim7 := { stood := { row := printTrianglesUptoRow, standIns := [], harness := (true, "8aef5e0eb991f7b7f1e225a96da25e1ea5e3b5cf2a5c27c154d3d8c9ad608907"), looks := false }, kinds := [], alts := [], laidByText := true, laidKinds := [.data, .pinned], laidTests := true, laidLooks := .later }
def PrintTrianglesUptoCardSaid : Prop := Claim7.holds Tryd.pinned (.plain (OpenSpec.upto printTrianglesSpec)) printTrianglesUptoCard

/-- THE SECOND FORM's CARD OF 'skimmerlaw09.PrintDistances'. -/
def printDistancesUptoCard : Claim7 := { stood := { row := printDistancesUptoRow, standIns := [], harness := (true, "8aef5e0eb991f7b7f1e225a96da25e1ea5e3b5cf2a5c27c154d3d8c9ad608907"), looks := false }, kinds := [], alts := [], laidByText := true, laidKinds := [.data, .pinned], laidTests := true, laidLooks := .later }
def PrintDistancesUptoCardSaid : Prop := Claim7.holds Tryd.pinned (.plain (OpenSpec.upto printDistancesSpec)) printDistancesUptoCard

/-- THE SECOND FORM's CARD OF 'skimmerlaw09.PrintEdits'. -/
def printEditsUptoCard : Claim7 := { stood := { row := printEditsUptoRow, standIns := [], harness := (true, "8aef5e0eb991f7b7f1e225a96da25e1ea5e3b5cf2a5c27c154d3d8c9ad608907"), looks := false }, kinds := [], alts := [], laidByText := true, laidKinds := [.data, .pinned], laidTests := true, laidLooks := .later }
def PrintEditsUptoCardSaid : Prop := Claim7.holds Tryd.pinned (.plain (OpenSpec.upto printEditsSpec)) printEditsUptoCard

/-- THE SECOND FORM's CARD OF 'skimmerlaw09.PrintTurns'. -/
def printTurnsUptoCard : Claim7 := { stood := { row := printTurnsUptoRow, standIns := [], harness := (true, "8aef5e0eb991f7b7f1e225a96da25e1ea5e3b5cf2a5c27c154d3d8c9ad608907"), looks := false }, kinds := [], alts := [], laidByText := true, laidKinds := [.data, .pinned], laidTests := true, laidLooks := .later }
def PrintTurnsUptoCardSaid : Prop := Claim7.holds Tryd.pinned (.plain (OpenSpec.upto printTurnsSpec)) printTurnsUptoCard

/-- THE SECOND FORM's CARD OF 'skimmerlaw09.PrintNumbers'. -/
def printNumbersUptoCard : Claim7 := { stood := { row := printNumbersUptoRow, standIns := [], harness := (true, "8aef5e0eb991f7b7f1e225a96da25e1ea5e3b5cf2a5c27c154d3d8c9ad608907"), looks := false }, kinds := [], alts := [], laidByText := true, laidKinds := [.data, .pinned], laidTests := true, laidLooks := .later }
def PrintNumbersUptoCardSaid : Prop := Claim7.holds Tryd.pinned (.plain (OpenSpec.upto printNumbersSpec)) printNumbersUptoCard

/-- THE SECOND FORM's CARD OF 'skimmerlaw09.PrintFars'. -/
def printFarsUptoCard : Claim7 := { stood := { row := printFarsUptoRow, standIns := [], harness := (true, "8aef5e0eb991f7b7f1e225a96da25e1ea5e3b5cf2a5c27c154d3d8c9ad608907"), looks := false }, kinds := [], alts := [], laidByText := true, laidKinds := [.data, .pinned], laidTests := true, laidLooks := .later }
def PrintFarsUptoCardSaid : Prop := Claim7.holds Tryd.pinned (.plain (OpenSpec.upto printFarsSpec)) printFarsUptoCard

/-- THE SECOND FORM's CARD OF 'skimmerlaw09.PrintProves'. -/
def printProvesUptoCard : Claim7 := { stood := { row := printProvesUptoRow, standIns := [], harness := (true, "8aef5e0eb991f7b7f1e225a96da25e1ea5e3b5cf2a5c27c154d3d8c9ad608907"), looks := false }, kinds := [], alts := [], laidByText := true, laidKinds := [.data, .pinned], laidTests := true, laidLooks := .later }
def PrintProvesUptoCardSaid : Prop := Claim7.holds Tryd.pinned (.plain (OpenSpec.upto printProvesSpec)) printProvesUptoCard

/-- THE SECOND FORM's CARD OF 'skimmerlaw09.PrintRows'. -/
def printRowsUptoCard : Claim7 := { stood := { row := printRowsUptoRow, standIns := [], harness := (true, "8aef5e0eb991f7b7f1e225a96da25e1ea5e3b5cf2a5c27c154d3d8c9ad608907"), looks := false }, kinds := [], alts := [], laidByText := true, laidKinds := [.data, .pinned], laidTests := true, laidLooks := .later }
def PrintRowsUptoCardSaid : Prop := Claim7.holds Tryd.pinned (.plain (OpenSpec.upto printRowsSpec)) printRowsUptoCard

/-- THE SECOND FORM's CARD OF 'skimmerlaw09.PrintAsks'. -/
def printAsksUptoCard : Claim7 := { stood := { row := printAsksUptoRow, standIns := [], harness := (true, "8aef5e0eb991f7b7f1e225a96da25e1ea5e3b5cf2a5c27c154d3d8c9ad608907"), looks := false }, kinds := [], alts := [], laidByText := true, laidKinds := [.data, .pinned], laidTests := true, laidLooks := .later }
def PrintAsksUptoCardSaid : Prop := Claim7.holds Tryd.pinned (.plain (OpenSpec.upto printAsksSpec)) printAsksUptoCard

/-- THE SECOND FORM's CARD OF 'skimmerlaw09.PrintBacks'. -/
def printBacksUptoCard : Claim7 := { stood := { row := printBacksUptoRow, standIns := [], harness := (true, "8aef5e0eb991f7b7f1e225a96da25e1ea5e3b5cf2a5c27c154d3d8c9ad608907"), looks := false }, kinds := [], alts := [], laidByText := true, laidKinds := [.data, .pinned], laidTests := true, laidLooks := .later }
def PrintBacksUptoCardSaid : Prop := Claim7.holds Tryd.pinned (.plain (OpenSpec.upto printBacksSpec)) printBacksUptoCard

/-- THE SECOND FORM's CARD OF 'skimmerlaw09.PrintCommons'. -/
def printCommonsUptoCard : Claim7 := { stood := { row := printCommonsUptoRow, standIns := [], harness := (true, "8aef5e0eb991f7b7f1e225a96da25e1ea5e3b5cf2a5c27c154d3d8c9ad608907"), looks := false }, kinds := [], alts := [], laidByText := true, laidKinds := [.data, .pinned], laidTests := true, laidLooks := .later }
def PrintCommonsUptoCardSaid : Prop := Claim7.holds Tryd.pinned (.plain (OpenSpec.upto printCommonsSpec)) printCommonsUptoCard

/-- THE SECOND FORM's CARD OF 'skimmerlaw09.PrintOthers'. -/
def printOthersUptoCard : Claim7 := { stood := { row := printOthersUptoRow, standIns := [], harness := (true, "8aef5e0eb991f7b7f1e225a96da25e1ea5e3b5cf2a5c27c154d3d8c9ad608907"), looks := false }, kinds := [], alts := [], laidByText := true, laidKinds := [.data, .pinned], laidTests := true, laidLooks := .later }
def PrintOthersUptoCardSaid : Prop := Claim7.holds Tryd.pinned (.plain (OpenSpec.upto printOthersSpec)) printOthersUptoCard

/-- THE SECOND FORM's CARD OF 'skimmerlaw09.PrintNears'. -/
def printNearsUptoCard : Claim7 := { stood := { row := printNearsUptoRow, standIns := [], harness := (true, "8aef5e0eb991f7b7f1e225a96da25e1ea5e3b5cf2a5c27c154d3d8c9ad608907"), looks := false }, kinds := [], alts := [], laidByText := true, laidKinds := [.data, .pinned], laidTests := true, laidLooks := .later }
def PrintNearsUptoCardSaid : Prop := Claim7.holds Tryd.pinned (.plain (OpenSpec.upto printNearsSpec)) printNearsUptoCard

/-- THE SECOND FORM's CARD OF 'skimmerlaw09.PrintProofs'. -/
def printProofsUptoCard : Claim7 := { stood := { row := printProofsUptoRow, standIns := [], harness := (true, "8aef5e0eb991f7b7f1e225a96da25e1ea5e3b5cf2a5c27c154d3d8c9ad608907"), looks := false }, kinds := [], alts := [], laidByText := true, laidKinds := [.data, .pinned], laidTests := true, laidLooks := .later }
def PrintProofsUptoCardSaid : Prop := Claim7.holds Tryd.pinned (.plain (OpenSpec.upto printProofsSpec)) printProofsUptoCard
end Rows
end Go.Proofs.YtmhlgnhfbickdaaDoor
