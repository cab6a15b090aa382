/-
  DERIVED. GIVEN WITH THE SEED: THE CARDS: each row of YtmdpfikalekmlaaDoorRows.lean that lists a variable, with what it lists TIED to the program's text (the seventh form; the later family's looks); each row that meets fmt, with fmt's text TOLD by the authors' own Lean function (tested against real Go, not proved from fmt's source: count such statements apart). THE CARD IS WHAT COUNTS. Prove the row's statement (the work); the ties are given (YtmdpfikalekmlaaDoorTie.lean); close each card by the builder's one call (the guide's Derived/Test/ToyasCard.lean, 'card_holds'). Laid BY PROGRAM, IN A SANDBOX (cutbox-door.mjs). By AI agents, Wed Nov 11 2026. No macro, syntax, notation, axiom, sorry.
-/
import Derived.Test.YtmdpfikalekmlaaDoorRows
import GoSem.ClaimSeven
namespace Go.Proofs.YtmdpfikalekmlaaDoor
namespace Rows

/-- THE TIED CARD OF 'concordlaw20.IsaEncodes'. -/
def isaEncodesCard : Claim7 := { stood := { row := isaEncodesRow, standIns := [], harness := (true, "cdba29989e1a126d82a84da9b0432fbf393c5dd87650e614e8a1d8fa06c69935"), looks := true }, kinds := [], alts := [], laidByText := true, laidKinds := [.data, .data, .data, .sentinel, .sentinel, .sentinel, .sentinel, .sentinel, .sentinel, .sentinel, .sentinel, .sentinel, .sentinel, .sentinel, .sentinel, .sentinel, .sentinel, .sentinel, .sentinel, .sentinel, .sentinel, .sentinel, .sentinel, .sentinel, .sentinel, .sentinel, .sentinel, .data], laidTests := true, laidLooks := .later }
def IsaEncodesCardSaid : Prop := Claim7.holds Tryd.pinned (.plain (OpenSpec.ofChange isaEncodesSpec)) isaEncodesCard

/-- THE TIED CARD OF 'concordlaw20.IsaDecodes'. -/
def isaDecodesCard : Claim7 := { stood := { row := isaDecodesRow, standIns := [], harness := (true, "cdba29989e1a126d82a84da9b0432fbf393c5dd87650e614e8a1d8fa06c69935"), looks := true }, kinds := [], alts := [], laidByText := true, laidKinds := [.data, .data, .data, .sentinel, .sentinel, .sentinel, .sentinel, .sentinel, .sentinel, .sentinel, .sentinel, .sentinel, .sentinel, .sentinel, .sentinel, .sentinel, .sentinel, .sentinel, .sentinel, .sentinel, .sentinel, .sentinel, .sentinel, .sentinel, .sentinel, .sentinel, .sentinel, .data], laidTests := true, laidLooks := .later }
def IsaDecodesCardSaid : Prop := Claim7.holds Tryd.pinned (.plain (OpenSpec.ofChange isaDecodesSpec)) isaDecodesCard

/-- THE TIED CARD OF 'concordlaw20.IsaThere'. -/
def isaThereCard : Claim7 := { stood := { row := isaThereRow, standIns := [], harness := (true, "cdba29989e1a126d82a84da9b0432fbf393c5dd87650e614e8a1d8fa06c69935"), looks := true }, kinds := [], alts := [], laidByText := true, laidKinds := [.data, .data, .data, .sentinel, .sentinel, .sentinel, .sentinel, .sentinel, .sentinel, .sentinel, .sentinel, .sentinel, .sentinel, .sentinel, .sentinel, .sentinel, .sentinel, .sentinel, .sentinel, .sentinel, .sentinel, .sentinel, .sentinel, .sentinel, .sentinel, .sentinel, .sentinel, .data], laidTests := true, laidLooks := .later }
def IsaThereCardSaid : Prop := Claim7.holds Tryd.pinned (.plain (OpenSpec.ofChange isaThereSpec)) isaThereCard

/-- THE TIED CARD OF 'concordlaw20.IsaTexts'. -/
def isaTextsCard : Claim7 := { stood := { row := isaTextsRow, standIns := [], harness := (true, "cdba29989e1a126d82a84da9b0432fbf393c5dd87650e614e8a1d8fa06c69935"), looks := true }, kinds := [], alts := [], laidByText := true, laidKinds := [.data, .data, .data, .sentinel, .sentinel, .sentinel, .sentinel, .sentinel, .sentinel, .sentinel, .sentinel, .sentinel, .sentinel, .sentinel, .sentinel, .sentinel, .sentinel, .sentinel, .sentinel, .sentinel, .sentinel, .sentinel, .sentinel, .sentinel, .sentinel, .sentinel, .sentinel, .data], laidTests := true, laidLooks := .later }
def IsaTextsCardSaid : Prop := Claim7.holds Tryd.pinned (.plain (OpenSpec.ofChange isaTextsSpec)) isaTextsCard

/-- THE TIED CARD OF 'concordlaw20.IsaTwo'. -/
def isaTwoCard : Claim7 := { stood := { row := isaTwoRow, standIns := [], harness := (true, "cdba29989e1a126d82a84da9b0432fbf393c5dd87650e614e8a1d8fa06c69935"), looks := true }, kinds := [], alts := [], laidByText := true, laidKinds := [.data, .data, .data, .sentinel, .sentinel, .sentinel, .data], laidTests := true, laidLooks := .later }
def IsaTwoCardSaid : Prop := Claim7.holds Tryd.pinned (.plain (OpenSpec.ofChange isaTwoSpec)) isaTwoCard

/-- THE TIED CARD OF 'concordlaw20.IsaNames'. -/
def isaNamesCard : Claim7 := { stood := { row := isaNamesRow, standIns := [], harness := (true, "cdba29989e1a126d82a84da9b0432fbf393c5dd87650e614e8a1d8fa06c69935"), looks := true }, kinds := [], alts := [], laidByText := true, laidKinds := [.data, .data, .data, .sentinel, .sentinel, .sentinel, .data], laidTests := true, laidLooks := .later }
def IsaNamesCardSaid : Prop := Claim7.holds Tryd.pinned (.plain (OpenSpec.ofChange isaNamesSpec)) isaNamesCard

/-- THE TIED CARD OF 'concordlaw20.IsaBack'. -/
def isaBackCard : Claim7 := { stood := { row := isaBackRow, standIns := [], harness := (true, "cdba29989e1a126d82a84da9b0432fbf393c5dd87650e614e8a1d8fa06c69935"), looks := true }, kinds := [], alts := [], laidByText := true, laidKinds := [.data, .data, .data, .data, .sentinel, .sentinel, .sentinel, .sentinel, .sentinel, .sentinel, .sentinel, .sentinel, .sentinel, .sentinel, .sentinel, .sentinel, .sentinel, .sentinel, .sentinel, .sentinel, .sentinel, .sentinel, .sentinel, .sentinel, .sentinel, .sentinel, .sentinel, .sentinel, .sentinel, .sentinel, .data, .pinned], laidTests := true, laidLooks := .later }
def IsaBackCardSaid : Prop := Claim7.holds Tryd.pinned (.plain (OpenSpec.ofChange isaBackSpec)) isaBackCard

/-- THE TIED CARD OF 'concordlaw20.IsaCuts'. -/
def isaCutsCard : Claim7 := { stood := { row := isaCutsRow, standIns := [], harness := (true, "cdba29989e1a126d82a84da9b0432fbf393c5dd87650e614e8a1d8fa06c69935"), looks := true }, kinds := [], alts := [], laidByText := true, laidKinds := [.data, .data, .data, .data, .sentinel, .sentinel, .sentinel, .sentinel, .sentinel, .sentinel, .sentinel, .sentinel, .sentinel, .sentinel, .sentinel, .sentinel, .sentinel, .sentinel, .sentinel, .sentinel, .sentinel, .sentinel, .sentinel, .sentinel, .sentinel, .sentinel, .sentinel, .sentinel, .sentinel, .sentinel, .data, .pinned], laidTests := true, laidLooks := .later }
def IsaCutsCardSaid : Prop := Claim7.holds Tryd.pinned (.plain (OpenSpec.ofChange isaCutsSpec)) isaCutsCard

/-- THE SECOND FORM's CARD OF 'concordlaw20.IsaEncodes'. -/
def isaEncodesUptoCard : Claim7 := { stood := { row := isaEncodesUptoRow, standIns := [], harness := (true, "cdba29989e1a126d82a84da9b0432fbf393c5dd87650e614e8a1d8fa06c69935"), looks := true }, kinds := [], alts := [], laidByText := true, laidKinds := [.data, .data, .data, .sentinel, .sentinel, .sentinel, .sentinel, .sentinel, .sentinel, .sentinel, .sentinel, .sentinel, .sentinel, .sentinel, .sentinel, .sentinel, .sentinel, .sentinel, .sentinel, .sentinel, .sentinel, .sentinel, .sentinel, .sentinel, .sentinel, .sentinel, .sentinel, .data], laidTests := true, laidLooks := .later }
def IsaEncodesUptoCardSaid : Prop := Claim7.holds Tryd.pinned (.plain (OpenSpec.upto isaEncodesSpec)) isaEncodesUptoCard

/-- THE SECOND FORM's CARD OF 'concordlaw20.IsaDecodes'. -/
def isaDecodesUptoCard : Claim7 := { stood := { row := isaDecodesUptoRow, standIns := [], harness := (true, "cdba29989e1a126d82a84da9b0432fbf393c5dd87650e614e8a1d8fa06c69935"), looks := true }, kinds := [], alts := [], laidByText := true, laidKinds := [.data, .data, .data, .sentinel, .sentinel, .sentinel, .sentinel, .sentinel, .sentinel, .sentinel, .sentinel, .sentinel, .sentinel, .sentinel, .sentinel, .sentinel, .sentinel, .sentinel, .sentinel, .sentinel, .sentinel, .sentinel, .sentinel, .sentinel, .sentinel, .sentinel, .sentinel, .data], laidTests := true, laidLooks := .later }
def IsaDecodesUptoCardSaid : Prop := Claim7.holds Tryd.pinned (.plain (OpenSpec.upto isaDecodesSpec)) isaDecodesUptoCard

/-- THE SECOND FORM's CARD OF 'concordlaw20.IsaThere'. -/
def isaThereUptoCard : Claim7 := { stood := { row := isaThereUptoRow, standIns := [], harness := (true, "cdba29989e1a126d82a84da9b0432fbf393c5dd87650e614e8a1d8fa06c69935"), looks := true }, kinds := [], alts := [], laidByText := true, laidKinds := [.data, .data, .data, .sentinel, .sentinel, .sentinel, .sentinel, .sentinel, .sentinel, .sentinel, .sentinel, .sentinel, .sentinel, .sentinel, .sentinel, .sentinel, .sentinel, .sentinel, .sentinel, .sentinel, .sentinel, .sentinel, .sentinel, .sentinel, .sentinel, .sentinel, .sentinel, .data], laidTests := true, laidLooks := .later }
def IsaThereUptoCardSaid : Prop := Claim7.holds Tryd.pinned (.plain (OpenSpec.upto isaThereSpec)) isaThereUptoCard

/-- THE SECOND FORM's CARD OF 'concordlaw20.IsaTexts'. -/
def isaTextsUptoCard : Claim7 := { stood := { row := isaTextsUptoRow, standIns := [], harness := (true, "cdba29989e1a126d82a84da9b0432fbf393c5dd87650e614e8a1d8fa06c69935"), looks := true }, kinds := [], alts := [], laidByText := true, laidKinds := [.data, .data, .data, .sentinel, .sentinel, .sentinel, .sentinel, .sentinel, .sentinel, .sentinel, .sentinel, .sentinel, .sentinel, .sentinel, .sentinel, .sentinel, .sentinel, .sentinel, .sentinel, .sentinel, .sentinel, .sentinel, .sentinel, .sentinel, .sentinel, .sentinel, .sentinel, .data], laidTests := true, laidLooks := .later }
def IsaTextsUptoCardSaid : Prop := Claim7.holds Tryd.pinned (.plain (OpenSpec.upto isaTextsSpec)) isaTextsUptoCard

/-- THE SECOND FORM's CARD OF 'concordlaw20.IsaTwo'. -/
def isaTwoUptoCard : Claim7 := { stood := { row := isaTwoUptoRow, standIns := [], harness := (true, "cdba29989e1a126d82a84da9b0432fbf393c5dd87650e614e8a1d8fa06c69935"), looks := true }, kinds := [], alts := [], laidByText := true, laidKinds := [.data, .data, .data, .sentinel, .sentinel, .sentinel, .data], laidTests := true, laidLooks := .later }
def IsaTwoUptoCardSaid : Prop := Claim7.holds Tryd.pinned (.plain (OpenSpec.upto isaTwoSpec)) isaTwoUptoCard

/-- THE SECOND FORM's CARD OF 'concordlaw20.IsaNames'. -/
def isaNamesUptoCard : Claim7 := { stood := { row := isaNamesUptoRow, standIns := [], harness := (true, "cdba29989e1a126d82a84da9b0432fbf393c5dd87650e614e8a1d8fa06c69935"), looks := true }, kinds := [], alts := [], laidByText := true, laidKinds := [.data, .data, .data, .sentinel, .sentinel, .sentinel, .data], laidTests := true, laidLooks := .later }
def IsaNamesUptoCardSaid : Prop := Claim7.holds Tryd.pinned (.plain (OpenSpec.upto isaNamesSpec)) isaNamesUptoCard

/-- THE SECOND FORM's CARD OF 'concordlaw20.IsaBack'. -/
def isaBackUptoCard : Claim7 := { stood := { row := isaBackUptoRow, standIns := [], harness := (true, "cdba29989e1a126d82a84da9b0432fbf393c5dd87650e614e8a1d8fa06c69935"), looks := true }, kinds := [], alts := [], laidByText := true, laidKinds := [.data, .data, .data, .data, .sentinel, .sentinel, .sentinel, .sentinel, .sentinel, .sentinel, .sentinel, .sentinel, .sentinel, .sentinel, .sentinel, .sentinel, .sentinel, .sentinel, .sentinel, .sentinel, .sentinel, .sentinel, .sentinel, .sentinel, .sentinel, .sentinel, .sentinel, .sentinel, .sentinel, .sentinel, .data, .pinned], laidTests := true, laidLooks := .later }
def IsaBackUptoCardSaid : Prop := Claim7.holds Tryd.pinned (.plain (OpenSpec.upto isaBackSpec)) isaBackUptoCard

/-- THE SECOND FORM's CARD OF 'concordlaw20.IsaCuts'. -/
def isaCutsUptoCard : Claim7 := { stood := { row := isaCutsUptoRow, standIns := [], harness := (true, "cdba29989e1a126d82a84da9b0432fbf393c5dd87650e614e8a1d8fa06c69935"), looks := true }, kinds := [], alts := [], laidByText := true, laidKinds := [.data, .data, .data, .data, .sentinel, .sentinel, .sentinel, .sentinel, .sentinel, .sentinel, .sentinel, .sentinel, .sentinel, .sentinel, .sentinel, .sentinel, .sentinel, .sentinel, .sentinel, .sentinel, .sentinel, .sentinel, .sentinel, .sentinel, .sentinel, .sentinel, .sentinel, .sentinel, .sentinel, .sentinel, .data, .pinned], laidTests := true, laidLooks := .later }
def IsaCutsUptoCardSaid : Prop := Claim7.holds Tryd.pinned (.plain (OpenSpec.upto isaCutsSpec)) isaCutsUptoCard
end Rows
end Go.Proofs.YtmdpfikalekmlaaDoor
