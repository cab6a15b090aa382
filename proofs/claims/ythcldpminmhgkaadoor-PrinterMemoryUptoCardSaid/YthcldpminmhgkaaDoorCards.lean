/-
  DERIVED. GIVEN WITH THE SEED: THE CARDS: each row of YthcldpminmhgkaaDoorRows.lean that lists a variable, with what it lists TIED to the program's text (the seventh form; the later family's looks); each row that meets fmt, with fmt's text TOLD by the authors' own Lean function (tested against real Go, not proved from fmt's source: count such statements apart). THE CARD IS WHAT COUNTS. Prove the row's statement (the work); the ties are given (YthcldpminmhgkaaDoorTie.lean); close each card by the builder's one call (the guide's Derived/Test/ToyasCard.lean, 'card_holds'). Laid BY PROGRAM, IN A SANDBOX (cutbox-door.mjs). By AI agents, Wed Nov 11 2026. No macro, syntax, notation, axiom, sorry.
-/
import Derived.Test.YthcldpminmhgkaaDoorRows
import GoSem.ClaimSeven
namespace Go.Proofs.YthcldpminmhgkaaDoor
namespace Rows

/-- THE TIED CARD OF 'concordlaw15.PrinterPlays'. -/
def printerPlaysCard : Claim7 := { stood := { row := printerPlaysRow, standIns := [], harness := (true, "22be3816f84394546cc01c33035ed19f314dc2084361e9733b5fda899ab2182c"), looks := true }, kinds := [], alts := [], laidByText := true, laidKinds := [.data, .data, .data, .sentinel, .sentinel, .sentinel, .sentinel, .sentinel, .sentinel, .sentinel, .sentinel, .sentinel, .sentinel, .sentinel, .sentinel, .sentinel, .sentinel, .sentinel, .sentinel, .sentinel, .sentinel, .sentinel, .sentinel, .sentinel, .sentinel, .sentinel, .sentinel, .data, .data], laidTests := true, laidLooks := .later }
def PrinterPlaysCardSaid : Prop := Claim7.holds Tryd.pinned (.plain (OpenSpec.ofChange printerPlaysSpec)) printerPlaysCard

/-- THE TIED CARD OF 'concordlaw15.PrinterOnce'. -/
def printerOnceCard : Claim7 := { stood := { row := printerOnceRow, standIns := [], harness := (true, "22be3816f84394546cc01c33035ed19f314dc2084361e9733b5fda899ab2182c"), looks := true }, kinds := [], alts := [], laidByText := true, laidKinds := [.data, .data, .data, .sentinel, .sentinel, .sentinel, .sentinel, .sentinel, .sentinel, .sentinel, .sentinel, .sentinel, .sentinel, .sentinel, .sentinel, .sentinel, .sentinel, .sentinel, .sentinel, .sentinel, .sentinel, .sentinel, .sentinel, .sentinel, .sentinel, .sentinel, .sentinel, .data, .data], laidTests := true, laidLooks := .later }
def PrinterOnceCardSaid : Prop := Claim7.holds Tryd.pinned (.plain (OpenSpec.ofChange printerOnceSpec)) printerOnceCard

/-- THE TIED CARD OF 'concordlaw15.PrinterNest'. -/
def printerNestCard : Claim7 := { stood := { row := printerNestRow, standIns := [], harness := (true, "22be3816f84394546cc01c33035ed19f314dc2084361e9733b5fda899ab2182c"), looks := true }, kinds := [], alts := [], laidByText := true, laidKinds := [.data, .data, .data, .sentinel, .sentinel, .sentinel, .sentinel, .sentinel, .sentinel, .sentinel, .sentinel, .sentinel, .sentinel, .sentinel, .sentinel, .sentinel, .sentinel, .sentinel, .sentinel, .sentinel, .sentinel, .sentinel, .sentinel, .sentinel, .sentinel, .sentinel, .sentinel, .data, .data], laidTests := true, laidLooks := .later }
def PrinterNestCardSaid : Prop := Claim7.holds Tryd.pinned (.plain (OpenSpec.ofChange printerNestSpec)) printerNestCard

/-- THE TIED CARD OF 'concordlaw15.PrinterMemory'. -/
def printerMemoryCard : Claim7 := { stood := { row := printerMemoryRow, standIns := [], harness := (true, "22be3816f84394546cc01c33035ed19f314dc2084361e9733b5fda899ab2182c"), looks := true }, kinds := [], alts := [], laidByText := true, laidKinds := [.data, .data, .data, .sentinel, .sentinel, .sentinel, .sentinel, .sentinel, .sentinel, .sentinel, .sentinel, .sentinel, .sentinel, .sentinel, .sentinel, .sentinel, .sentinel, .sentinel, .sentinel, .sentinel, .sentinel, .sentinel, .sentinel, .sentinel, .sentinel, .sentinel, .sentinel, .data, .data], laidTests := true, laidLooks := .later }
def PrinterMemoryCardSaid : Prop := Claim7.holds Tryd.pinned (.plain (OpenSpec.ofChange printerMemorySpec)) printerMemoryCard

/-- THE TIED CARD OF 'concordlaw15.PrinterBack'. -/
def printerBackCard : Claim7 := { stood := { row := printerBackRow, standIns := [], harness := (true, "22be3816f84394546cc01c33035ed19f314dc2084361e9733b5fda899ab2182c"), looks := true }, kinds := [], alts := [], laidByText := true, laidKinds := [.data, .data, .data, .sentinel, .sentinel, .sentinel, .sentinel, .sentinel, .sentinel, .sentinel, .sentinel, .sentinel, .sentinel, .sentinel, .sentinel, .sentinel, .sentinel, .sentinel, .sentinel, .sentinel, .sentinel, .sentinel, .sentinel, .sentinel, .sentinel, .sentinel, .sentinel, .data, .data], laidTests := true, laidLooks := .later }
def PrinterBackCardSaid : Prop := Claim7.holds Tryd.pinned (.plain (OpenSpec.ofChange printerBackSpec)) printerBackCard

/-- THE TIED CARD OF 'concordlaw15.PrinterText'. -/
def printerTextCard : Claim7 := { stood := { row := printerTextRow, standIns := [], harness := (true, "22be3816f84394546cc01c33035ed19f314dc2084361e9733b5fda899ab2182c"), looks := true }, kinds := [], alts := [], laidByText := true, laidKinds := [.data, .data, .data, .sentinel, .sentinel, .sentinel, .sentinel, .sentinel, .sentinel, .sentinel, .sentinel, .sentinel, .sentinel, .sentinel, .sentinel, .sentinel, .sentinel, .sentinel, .sentinel, .sentinel, .sentinel, .sentinel, .sentinel, .sentinel, .sentinel, .sentinel, .sentinel, .data, .data], laidTests := true, laidLooks := .later }
def PrinterTextCardSaid : Prop := Claim7.holds Tryd.pinned (.plain (OpenSpec.ofChange printerTextSpec)) printerTextCard

/-- THE SECOND FORM's CARD OF 'concordlaw15.PrinterPlays'. -/
def printerPlaysUptoCard : Claim7 := { stood := { row := printerPlaysUptoRow, standIns := [], harness := (true, "22be3816f84394546cc01c33035ed19f314dc2084361e9733b5fda899ab2182c"), looks := true }, kinds := [], alts := [], laidByText := true, laidKinds := [.data, .data, .data, .sentinel, .sentinel, .sentinel, .sentinel, .sentinel, .sentinel, .sentinel, .sentinel, .sentinel, .sentinel, .sentinel, .sentinel, .sentinel, .sentinel, .sentinel, .sentinel, .sentinel, .sentinel, .sentinel, .sentinel, .sentinel, .sentinel, .sentinel, .sentinel, .data, .data], laidTests := true, laidLooks := .later }
def PrinterPlaysUptoCardSaid : Prop := Claim7.holds Tryd.pinned (.plain (OpenSpec.upto printerPlaysSpec)) printerPlaysUptoCard

/-- THE SECOND FORM's CARD OF 'concordlaw15.PrinterOnce'. -/
def printerOnceUptoCard : Claim7 := { stood := { row := printerOnceUptoRow, standIns := [], harness := (true, "22be3816f84394546cc01c33035ed19f314dc2084361e9733b5fda899ab2182c"), looks := true }, kinds := [], alts := [], laidByText := true, laidKinds := [.data, .data, .data, .sentinel, .sentinel, .sentinel, .sentinel, .sentinel, .sentinel, .sentinel, .sentinel, .sentinel, .sentinel, .sentinel, .sentinel, .sentinel, .sentinel, .sentinel, .sentinel, .sentinel, .sentinel, .sentinel, .sentinel, .sentinel, .sentinel, .sentinel, .sentinel, .data, .data], laidTests := true, laidLooks := .later }
def PrinterOnceUptoCardSaid : Prop := Claim7.holds Tryd.pinned (.plain (OpenSpec.upto printerOnceSpec)) printerOnceUptoCard

/-- THE SECOND FORM's CARD OF 'concordlaw15.PrinterNest'. -/
def printerNestUptoCard : Claim7 := { stood := { row := printerNestUptoRow, standIns := [], harness := (true, "22be3816f84394546cc01c33035ed19f314dc2084361e9733b5fda899ab2182c"), looks := true }, kinds := [], alts := [], laidByText := true, laidKinds := [.data, .data, .data, .sentinel, .sentinel, .sentinel, .sentinel, .sentinel, .sentinel, .sentinel, .sentinel, .sentinel, .sentinel, .sentinel, .sentinel, .sentinel, .sentinel, .sentinel, .sentinel, .sentinel, .sentinel, .sentinel, .sentinel, .sentinel, .sentinel, .sentinel, .sentinel, .data, .data], laidTests := true, laidLooks := .later }
def PrinterNestUptoCardSaid : Prop := Claim7.holds Tryd.pinned (.plain (OpenSpec.upto printerNestSpec)) printerNestUptoCard

/-- THE SECOND FORM's CARD OF 'concordlaw15.PrinterMemory'. -/
def printerMemoryUptoCard : Claim7 := { stood := { row := printerMemoryUptoRow, standIns := [], harness := (true, "22be3816f84394546cc01c33035ed19f314dc2084361e9733b5fda899ab2182c"), looks := true }, kinds := [], alts := [], laidByText := true, laidKinds := [.data, .data, .data, .sentinel, .sentinel, .sentinel, .sentinel, .sentinel, .sentinel, .sentinel, .sentinel, .sentinel, .sentinel, .sentinel, .sentinel, .sentinel, .sentinel, .sentinel, .sentinel, .sentinel, .sentinel, .sentinel, .sentinel, .sentinel, .sentinel, .sentinel, .sentinel, .data, .data], laidTests := true, laidLooks := .later }
def PrinterMemoryUptoCardSaid : Prop := Claim7.holds Tryd.pinned (.plain (OpenSpec.upto printerMemorySpec)) printerMemoryUptoCard

/-- THE SECOND FORM's CARD OF 'concordlaw15.PrinterBack'. -/
def printerBackUptoCard : Claim7 := { stood := { row := printerBackUptoRow, standIns := [], harness := (true, "22be3816f84394546cc01c33035ed19f314dc2084361e9733b5fda899ab2182c"), looks := true }, kinds := [], alts := [], laidByText := true, laidKinds := [.data, .data, .data, .sentinel, .sentinel, .sentinel, .sentinel, .sentinel, .sentinel, .sentinel, .sentinel, .sentinel, .sentinel, .sentinel, .sentinel, .sentinel, .sentinel, .sentinel, .sentinel, .sentinel, .sentinel, .sentinel, .sentinel, .sentinel, .sentinel, .sentinel, .sentinel, .data, .data], laidTests := true, laidLooks := .later }
def PrinterBackUptoCardSaid : Prop := Claim7.holds Tryd.pinned (.plain (OpenSpec.upto printerBackSpec)) printerBackUptoCard

/-- THE SECOND FORM's CARD OF 'concordlaw15.PrinterText'. -/
def printerTextUptoCard : Claim7 := { stood := { row := printerTextUptoRow, standIns := [], harness := (true, "22be3816f84394546cc01c33035ed19f314dc2084361e9733b5fda899ab2182c"), looks := true }, kinds := [], alts := [], laidByText := true, laidKinds := [.data, .data, .data, .sentinel, .sentinel, .sentinel, .sentinel, .sentinel, .sentinel, .sentinel, .sentinel, .sentinel, .sentinel, .sentinel, .sentinel, .sentinel, .sentinel, .sentinel, .sentinel, .sentinel, .sentinel, .sentinel, .sentinel, .sentinel, .sentinel, .sentinel, .sentinel, .data, .data], laidTests := true, laidLooks := .later }
def PrinterTextUptoCardSaid : Prop := Claim7.holds Tryd.pinned (.plain (OpenSpec.upto printerTextSpec)) printerTextUptoCard
end Rows
end Go.Proofs.YthcldpminmhgkaaDoor
