/-
  DERIVED. GIVEN WITH THE SEED: THE CARDS: each row of YtlgcofinmpckkaaDoorRows.lean that lists a variable, with what it lists TIED to the program's text (the seventh form; the later family's looks); each row that meets fmt, with fmt's text TOLD by the authors' own Lean function (tested against real Go, not proved from fmt's source: count such statements apart). THE CARD IS WHAT COUNTS. Prove the row's statement (the work); the ties are given (YtlgcofinmpckkaaDoorTie.lean); close each card by the builder's one call (the guide's Derived/Test/ToyasCard.lean, 'card_holds'). Laid BY PROGRAM, IN A SANDBOX (cutbox-door.mjs). By AI agents, Wed Nov 11 2026. No macro, syntax, notation, axiom, sorry.
-/
import Derived.Test.YtlgcofinmpckkaaDoorRows
import GoSem.ClaimSeven
namespace Go.Proofs.YtlgcofinmpckkaaDoor
namespace Rows

/-- THE TIED CARD OF 'concordlaw13.LexerWrites'. -/
def lexerWritesCard : Claim7 := { stood := { row := lexerWritesRow, standIns := [], harness := (true, "3c8289515d34ecea0537a98b3ec46c9aaacc83d9571fff7ab8722c3aa8c696f1"), looks := true }, kinds := [], alts := [], laidByText := true, laidKinds := [.data], laidTests := true, laidLooks := .later }
def LexerWritesCardSaid : Prop := Claim7.holds Tryd.pinned (.plain (OpenSpec.ofChange lexerWritesSpec)) lexerWritesCard

/-- THE TIED CARD OF 'concordlaw13.LexerScans'. -/
def lexerScansCard : Claim7 := { stood := { row := lexerScansRow, standIns := [], harness := (true, "3c8289515d34ecea0537a98b3ec46c9aaacc83d9571fff7ab8722c3aa8c696f1"), looks := true }, kinds := [], alts := [], laidByText := true, laidKinds := [.sentinel, .sentinel, .sentinel, .sentinel, .sentinel, .sentinel, .sentinel, .sentinel, .sentinel, .sentinel, .sentinel, .sentinel, .sentinel, .sentinel, .sentinel, .sentinel, .sentinel, .sentinel, .sentinel, .sentinel, .sentinel, .sentinel, .sentinel, .sentinel, .data], laidTests := true, laidLooks := .later }
def LexerScansCardSaid : Prop := Claim7.holds Tryd.pinned (.plain (OpenSpec.ofChange lexerScansSpec)) lexerScansCard

/-- THE TIED CARD OF 'concordlaw13.LexerCovers'. -/
def lexerCoversCard : Claim7 := { stood := { row := lexerCoversRow, standIns := [], harness := (true, "3c8289515d34ecea0537a98b3ec46c9aaacc83d9571fff7ab8722c3aa8c696f1"), looks := true }, kinds := [], alts := [], laidByText := true, laidKinds := [.sentinel, .data], laidTests := true, laidLooks := .later }
def LexerCoversCardSaid : Prop := Claim7.holds Tryd.pinned (.plain (OpenSpec.ofChange lexerCoversSpec)) lexerCoversCard

/-- THE TIED CARD OF 'concordlaw13.LexerBeside'. -/
def lexerBesideCard : Claim7 := { stood := { row := lexerBesideRow, standIns := [], harness := (true, "3c8289515d34ecea0537a98b3ec46c9aaacc83d9571fff7ab8722c3aa8c696f1"), looks := true }, kinds := [], alts := [], laidByText := true, laidKinds := [.sentinel, .data], laidTests := true, laidLooks := .later }
def LexerBesideCardSaid : Prop := Claim7.holds Tryd.pinned (.plain (OpenSpec.ofChange lexerBesideSpec)) lexerBesideCard

/-- THE TIED CARD OF 'concordlaw13.LexerFaults'. -/
def lexerFaultsCard : Claim7 := { stood := { row := lexerFaultsRow, standIns := [], harness := (true, "3c8289515d34ecea0537a98b3ec46c9aaacc83d9571fff7ab8722c3aa8c696f1"), looks := true }, kinds := [], alts := [], laidByText := true, laidKinds := [.sentinel, .data], laidTests := true, laidLooks := .later }
def LexerFaultsCardSaid : Prop := Claim7.holds Tryd.pinned (.plain (OpenSpec.ofChange lexerFaultsSpec)) lexerFaultsCard

/-- THE TIED CARD OF 'concordlaw13.LexerBack'. -/
def lexerBackCard : Claim7 := { stood := { row := lexerBackRow, standIns := [], harness := (true, "3c8289515d34ecea0537a98b3ec46c9aaacc83d9571fff7ab8722c3aa8c696f1"), looks := true }, kinds := [], alts := [], laidByText := true, laidKinds := [.sentinel, .data], laidTests := true, laidLooks := .later }
def LexerBackCardSaid : Prop := Claim7.holds Tryd.pinned (.plain (OpenSpec.ofChange lexerBackSpec)) lexerBackCard

/-- THE SECOND FORM's CARD OF 'concordlaw13.LexerWrites'. -/
def lexerWritesUptoCard : Claim7 := { stood := { row := lexerWritesUptoRow, standIns := [], harness := (true, "3c8289515d34ecea0537a98b3ec46c9aaacc83d9571fff7ab8722c3aa8c696f1"), looks := true }, kinds := [], alts := [], laidByText := true, laidKinds := [.data], laidTests := true, laidLooks := .later }
def LexerWritesUptoCardSaid : Prop := Claim7.holds Tryd.pinned (.plain (OpenSpec.upto lexerWritesSpec)) lexerWritesUptoCard

/-- THE SECOND FORM's CARD OF 'concordlaw13.LexerScans'. -/
def lexerScansUptoCard : Claim7 := { stood := { row := lexerScansUptoRow, standIns := [], harness := (true, "3c8289515d34ecea0537a98b3ec46c9aaacc83d9571fff7ab8722c3aa8c696f1"), looks := true }, kinds := [], alts := [], laidByText := true, laidKinds := [.sentinel, .sentinel, .sentinel, .sentinel, .sentinel, .sentinel, .sentinel, .sentinel, .sentinel, .sentinel, .sentinel, .sentinel, .sentinel, .sentinel, .sentinel, .sentinel, .sentinel, .sentinel, .sentinel, .sentinel, .sentinel, .sentinel, .sentinel, .sentinel, .data], laidTests := true, laidLooks := .later }
def LexerScansUptoCardSaid : Prop := Claim7.holds Tryd.pinned (.plain (OpenSpec.upto lexerScansSpec)) lexerScansUptoCard

/-- THE SECOND FORM's CARD OF 'concordlaw13.LexerCovers'. -/
def lexerCoversUptoCard : Claim7 := { stood := { row := lexerCoversUptoRow, standIns := [], harness := (true, "3c8289515d34ecea0537a98b3ec46c9aaacc83d9571fff7ab8722c3aa8c696f1"), looks := true }, kinds := [], alts := [], laidByText := true, laidKinds := [.sentinel, .data], laidTests := true, laidLooks := .later }
def LexerCoversUptoCardSaid : Prop := Claim7.holds Tryd.pinned (.plain (OpenSpec.upto lexerCoversSpec)) lexerCoversUptoCard

/-- THE SECOND FORM's CARD OF 'concordlaw13.LexerBeside'. -/
def lexerBesideUptoCard : Claim7 := { stood := { row := lexerBesideUptoRow, standIns := [], harness := (true, "3c8289515d34ecea0537a98b3ec46c9aaacc83d9571fff7ab8722c3aa8c696f1"), looks := true }, kinds := [], alts := [], laidByText := true, laidKinds := [.sentinel, .data], laidTests := true, laidLooks := .later }
def LexerBesideUptoCardSaid : Prop := Claim7.holds Tryd.pinned (.plain (OpenSpec.upto lexerBesideSpec)) lexerBesideUptoCard

/-- THE SECOND FORM's CARD OF 'concordlaw13.LexerFaults'. -/
def lexerFaultsUptoCard : Claim7 := { stood := { row := lexerFaultsUptoRow, standIns := [], harness := (true, "3c8289515d34ecea0537a98b3ec46c9aaacc83d9571fff7ab8722c3aa8c696f1"), looks := true }, kinds := [], alts := [], laidByText := true, laidKinds := [.sentinel, .data], laidTests := true, laidLooks := .later }
def LexerFaultsUptoCardSaid : Prop := Claim7.holds Tryd.pinned (.plain (OpenSpec.upto lexerFaultsSpec)) lexerFaultsUptoCard

/-- THE SECOND FORM's CARD OF 'concordlaw13.LexerBack'. -/
def lexerBackUptoCard : Claim7 := { stood := { row := lexerBackUptoRow, standIns := [], harness := (true, "3c8289515d34ecea0537a98b3ec46c9aaacc83d9571fff7ab8722c3aa8c696f1"), looks := true }, kinds := [], alts := [], laidByText := true, laidKinds := [.sentinel, .data], laidTests := true, laidLooks := .later }
def LexerBackUptoCardSaid : Prop := Claim7.holds Tryd.pinned (.plain (OpenSpec.upto lexerBackSpec)) lexerBackUptoCard
end Rows
end Go.Proofs.YtlgcofinmpckkaaDoor
