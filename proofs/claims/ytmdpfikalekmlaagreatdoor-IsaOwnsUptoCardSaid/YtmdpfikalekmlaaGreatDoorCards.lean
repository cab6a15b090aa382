/-
  DERIVED. GIVEN WITH THE SEED: THE CARDS: each row of YtmdpfikalekmlaaGreatDoorRows.lean that lists a variable, with what it lists TIED to the program's text (the seventh form; the later family's looks); each row that meets fmt, with fmt's text TOLD by the authors' own Lean function (tested against real Go, not proved from fmt's source: count such statements apart). THE CARD IS WHAT COUNTS. Prove the row's statement (the work); the ties are given (YtmdpfikalekmlaaGreatDoorTie.lean); close each card by the builder's one call (the guide's Derived/Test/ToyasCard.lean, 'card_holds'). Laid BY PROGRAM, IN A SANDBOX (cutbox-door.mjs). By AI agents, Wed Nov 11 2026. No macro, syntax, notation, axiom, sorry.
-/
import Derived.Test.YtmdpfikalekmlaaGreatDoorRows
import GoSem.ClaimSeven
namespace Go.Proofs.YtmdpfikalekmlaaGreatDoor
namespace Rows

/-- THE TIED CARD OF 'concordlaw20.IsaReads'. -/
def isaReadsCard : Claim7 := { stood := { row := isaReadsRow, standIns := [], harness := (true, "4cc1d1057f44e45bb0f711e3631d64fa39a62fe971f9df5c0b651cacbda99f28"), looks := true }, kinds := [], alts := [], laidByText := true, laidKinds := [.data, .data, .data, .data, .sentinel, .sentinel, .sentinel, .sentinel, .sentinel, .sentinel, .sentinel, .sentinel, .sentinel, .sentinel, .sentinel, .sentinel, .sentinel, .sentinel, .sentinel, .sentinel, .sentinel, .sentinel, .sentinel, .sentinel, .sentinel, .sentinel, .sentinel, .sentinel, .sentinel, .sentinel, .data, .pinned], laidTests := true, laidLooks := .later }
def IsaReadsCardSaid : Prop := Claim7.holds Tryz.pinned (.plain (OpenSpec.ofChange isaReadsSpec)) isaReadsCard

/-- THE TIED CARD OF 'concordlaw20.IsaOwns'. -/
def isaOwnsCard : Claim7 := { stood := { row := isaOwnsRow, standIns := [], harness := (true, "4cc1d1057f44e45bb0f711e3631d64fa39a62fe971f9df5c0b651cacbda99f28"), looks := true }, kinds := [], alts := [], laidByText := true, laidKinds := [.data, .data, .data, .data, .sentinel, .sentinel, .sentinel, .sentinel, .sentinel, .sentinel, .sentinel, .sentinel, .sentinel, .sentinel, .sentinel, .sentinel, .sentinel, .sentinel, .sentinel, .sentinel, .sentinel, .sentinel, .sentinel, .sentinel, .sentinel, .sentinel, .sentinel, .sentinel, .sentinel, .sentinel, .data, .pinned], laidTests := true, laidLooks := .later }
def IsaOwnsCardSaid : Prop := Claim7.holds Tryz.pinned (.plain (OpenSpec.ofChange isaOwnsSpec)) isaOwnsCard

/-- THE SECOND FORM's CARD OF 'concordlaw20.IsaReads'. -/
def isaReadsUptoCard : Claim7 := { stood := { row := isaReadsUptoRow, standIns := [], harness := (true, "4cc1d1057f44e45bb0f711e3631d64fa39a62fe971f9df5c0b651cacbda99f28"), looks := true }, kinds := [], alts := [], laidByText := true, laidKinds := [.data, .data, .data, .data, .sentinel, .sentinel, .sentinel, .sentinel, .sentinel, .sentinel, .sentinel, .sentinel, .sentinel, .sentinel, .sentinel, .sentinel, .sentinel, .sentinel, .sentinel, .sentinel, .sentinel, .sentinel, .sentinel, .sentinel, .sentinel, .sentinel, .sentinel, .sentinel, .sentinel, .sentinel, .data, .pinned], laidTests := true, laidLooks := .later }
def IsaReadsUptoCardSaid : Prop := Claim7.holds Tryz.pinned (.plain (OpenSpec.upto isaReadsSpec)) isaReadsUptoCard

/-- THE SECOND FORM's CARD OF 'concordlaw20.IsaOwns'. -/
def isaOwnsUptoCard : Claim7 := { stood := { row := isaOwnsUptoRow, standIns := [], harness := (true, "4cc1d1057f44e45bb0f711e3631d64fa39a62fe971f9df5c0b651cacbda99f28"), looks := true }, kinds := [], alts := [], laidByText := true, laidKinds := [.data, .data, .data, .data, .sentinel, .sentinel, .sentinel, .sentinel, .sentinel, .sentinel, .sentinel, .sentinel, .sentinel, .sentinel, .sentinel, .sentinel, .sentinel, .sentinel, .sentinel, .sentinel, .sentinel, .sentinel, .sentinel, .sentinel, .sentinel, .sentinel, .sentinel, .sentinel, .sentinel, .sentinel, .data, .pinned], laidTests := true, laidLooks := .later }
def IsaOwnsUptoCardSaid : Prop := Claim7.holds Tryz.pinned (.plain (OpenSpec.upto isaOwnsSpec)) isaOwnsUptoCard
end Rows
end Go.Proofs.YtmdpfikalekmlaaGreatDoor
