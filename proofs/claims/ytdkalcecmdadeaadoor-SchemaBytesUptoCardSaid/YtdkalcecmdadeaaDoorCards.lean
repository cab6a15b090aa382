/-
  DERIVED. GIVEN WITH THE SEED: THE CARDS: each row of YtdkalcecmdadeaaDoorRows.lean that lists a variable, with what it lists TIED to the program's text (the seventh form; the later family's looks); each row that meets fmt, with fmt's text TOLD by the authors' own Lean function (tested against real Go, not proved from fmt's source: count such statements apart). THE CARD IS WHAT COUNTS. Prove the row's statement (the work); the ties are given (YtdkalcecmdadeaaDoorTie.lean); close each card by the builder's one call (the guide's Derived/Test/ToyasCard.lean, 'card_holds'). Laid BY PROGRAM, IN A SANDBOX (cutbox-door.mjs). By AI agents, Wed Nov 11 2026. No macro, syntax, notation, axiom, sorry.
-/
import Derived.Test.YtdkalcecmdadeaaDoorRows
import GoSem.ClaimSeven
namespace Go.Proofs.YtdkalcecmdadeaaDoor
namespace Rows

/-- THE TIED CARD OF 'concordlaw04.SchemaChecks'. -/
def schemaChecksCard : Claim7 := { stood := { row := schemaChecksRow, standIns := [], harness := (true, "16bbff9cf0e3b0f1fedf269d15f373a8095d25cb9e80e50104536889bc5acf9f"), looks := true }, kinds := [], alts := [], laidByText := true, laidKinds := [.sentinel, .sentinel, .sentinel, .sentinel, .sentinel, .sentinel, .sentinel, .sentinel, .sentinel, .sentinel, .sentinel, .sentinel, .sentinel, .sentinel, .sentinel, .sentinel, .sentinel, .sentinel, .sentinel, .sentinel, .sentinel, .sentinel, .sentinel, .sentinel], laidTests := true, laidLooks := .later }
def SchemaChecksCardSaid : Prop := Claim7.holds Tryd.pinned (.plain (OpenSpec.ofChange schemaChecksSpec)) schemaChecksCard

/-- THE TIED CARD OF 'concordlaw04.SchemaFinds'. -/
def schemaFindsCard : Claim7 := { stood := { row := schemaFindsRow, standIns := [], harness := (true, "16bbff9cf0e3b0f1fedf269d15f373a8095d25cb9e80e50104536889bc5acf9f"), looks := true }, kinds := [], alts := [], laidByText := true, laidKinds := [.sentinel], laidTests := true, laidLooks := .later }
def SchemaFindsCardSaid : Prop := Claim7.holds Tryd.pinned (.plain (OpenSpec.ofChange schemaFindsSpec)) schemaFindsCard

/-- THE TIED CARD OF 'concordlaw04.SchemaTexts'. -/
def schemaTextsCard : Claim7 := { stood := { row := schemaTextsRow, standIns := [], harness := (true, "16bbff9cf0e3b0f1fedf269d15f373a8095d25cb9e80e50104536889bc5acf9f"), looks := true }, kinds := [], alts := [], laidByText := true, laidKinds := [.sentinel, .sentinel, .sentinel, .sentinel, .sentinel, .sentinel, .sentinel, .sentinel, .sentinel, .sentinel, .sentinel, .sentinel, .sentinel, .sentinel, .sentinel, .sentinel, .sentinel, .sentinel, .sentinel, .sentinel, .sentinel, .sentinel, .sentinel, .sentinel], laidTests := true, laidLooks := .later }
def SchemaTextsCardSaid : Prop := Claim7.holds Tryd.pinned (.plain (OpenSpec.ofChange schemaTextsSpec)) schemaTextsCard

/-- THE TIED CARD OF 'concordlaw04.SchemaGoods'. -/
def schemaGoodsCard : Claim7 := { stood := { row := schemaGoodsRow, standIns := [], harness := (true, "16bbff9cf0e3b0f1fedf269d15f373a8095d25cb9e80e50104536889bc5acf9f"), looks := true }, kinds := [], alts := [], laidByText := true, laidKinds := [.sentinel, .sentinel, .sentinel, .sentinel, .sentinel, .sentinel, .sentinel, .sentinel, .sentinel, .sentinel, .sentinel, .sentinel, .sentinel, .sentinel, .sentinel, .sentinel, .sentinel, .sentinel, .sentinel, .sentinel, .sentinel, .sentinel, .sentinel, .sentinel], laidTests := true, laidLooks := .later }
def SchemaGoodsCardSaid : Prop := Claim7.holds Tryd.pinned (.plain (OpenSpec.ofChange schemaGoodsSpec)) schemaGoodsCard

/-- THE TIED CARD OF 'concordlaw04.SchemaGoodOne'. -/
def schemaGoodOneCard : Claim7 := { stood := { row := schemaGoodOneRow, standIns := [], harness := (true, "16bbff9cf0e3b0f1fedf269d15f373a8095d25cb9e80e50104536889bc5acf9f"), looks := true }, kinds := [], alts := [], laidByText := true, laidKinds := [.sentinel, .sentinel, .sentinel, .sentinel, .sentinel, .sentinel, .sentinel, .sentinel, .sentinel, .sentinel, .sentinel, .sentinel, .sentinel, .sentinel, .sentinel, .sentinel, .sentinel, .sentinel, .sentinel, .sentinel, .sentinel, .sentinel, .sentinel, .sentinel], laidTests := true, laidLooks := .later }
def SchemaGoodOneCardSaid : Prop := Claim7.holds Tryd.pinned (.plain (OpenSpec.ofChange schemaGoodOneSpec)) schemaGoodOneCard

/-- THE TIED CARD OF 'concordlaw04.SchemaBytes'. -/
def schemaBytesCard : Claim7 := { stood := { row := schemaBytesRow, standIns := [], harness := (true, "16bbff9cf0e3b0f1fedf269d15f373a8095d25cb9e80e50104536889bc5acf9f"), looks := true }, kinds := [], alts := [], laidByText := true, laidKinds := [.sentinel, .sentinel, .sentinel, .sentinel, .sentinel, .sentinel, .sentinel, .sentinel, .sentinel, .sentinel, .sentinel, .sentinel, .sentinel, .sentinel, .sentinel, .sentinel, .sentinel, .sentinel, .sentinel, .sentinel, .sentinel, .sentinel, .sentinel, .sentinel], laidTests := true, laidLooks := .later }
def SchemaBytesCardSaid : Prop := Claim7.holds Tryd.pinned (.plain (OpenSpec.ofChange schemaBytesSpec)) schemaBytesCard

/-- THE SECOND FORM's CARD OF 'concordlaw04.SchemaChecks'. -/
def schemaChecksUptoCard : Claim7 := { stood := { row := schemaChecksUptoRow, standIns := [], harness := (true, "16bbff9cf0e3b0f1fedf269d15f373a8095d25cb9e80e50104536889bc5acf9f"), looks := true }, kinds := [], alts := [], laidByText := true, laidKinds := [.sentinel, .sentinel, .sentinel, .sentinel, .sentinel, .sentinel, .sentinel, .sentinel, .sentinel, .sentinel, .sentinel, .sentinel, .sentinel, .sentinel, .sentinel, .sentinel, .sentinel, .sentinel, .sentinel, .sentinel, .sentinel, .sentinel, .sentinel, .sentinel], laidTests := true, laidLooks := .later }
def SchemaChecksUptoCardSaid : Prop := Claim7.holds Tryd.pinned (.plain (OpenSpec.upto schemaChecksSpec)) schemaChecksUptoCard

/-- THE SECOND FORM's CARD OF 'concordlaw04.SchemaFinds'. -/
def schemaFindsUptoCard : Claim7 := { stood := { row := schemaFindsUptoRow, standIns := [], harness := (true, "16bbff9cf0e3b0f1fedf269d15f373a8095d25cb9e80e50104536889bc5acf9f"), looks := true }, kinds := [], alts := [], laidByText := true, laidKinds := [.sentinel], laidTests := true, laidLooks := .later }
def SchemaFindsUptoCardSaid : Prop := Claim7.holds Tryd.pinned (.plain (OpenSpec.upto schemaFindsSpec)) schemaFindsUptoCard

/-- THE SECOND FORM's CARD OF 'concordlaw04.SchemaTexts'. -/
def schemaTextsUptoCard : Claim7 := { stood := { row := schemaTextsUptoRow, standIns := [], harness := (true, "16bbff9cf0e3b0f1fedf269d15f373a8095d25cb9e80e50104536889bc5acf9f"), looks := true }, kinds := [], alts := [], laidByText := true, laidKinds := [.sentinel, .sentinel, .sentinel, .sentinel, .sentinel, .sentinel, .sentinel, .sentinel, .sentinel, .sentinel, .sentinel, .sentinel, .sentinel, .sentinel, .sentinel, .sentinel, .sentinel, .sentinel, .sentinel, .sentinel, .sentinel, .sentinel, .sentinel, .sentinel], laidTests := true, laidLooks := .later }
def SchemaTextsUptoCardSaid : Prop := Claim7.holds Tryd.pinned (.plain (OpenSpec.upto schemaTextsSpec)) schemaTextsUptoCard

/-- THE SECOND FORM's CARD OF 'concordlaw04.SchemaGoods'. -/
def schemaGoodsUptoCard : Claim7 := { stood := { row := schemaGoodsUptoRow, standIns := [], harness := (true, "16bbff9cf0e3b0f1fedf269d15f373a8095d25cb9e80e50104536889bc5acf9f"), looks := true }, kinds := [], alts := [], laidByText := true, laidKinds := [.sentinel, .sentinel, .sentinel, .sentinel, .sentinel, .sentinel, .sentinel, .sentinel, .sentinel, .sentinel, .sentinel, .sentinel, .sentinel, .sentinel, .sentinel, .sentinel, .sentinel, .sentinel, .sentinel, .sentinel, .sentinel, .sentinel, .sentinel, .sentinel], laidTests := true, laidLooks := .later }
def SchemaGoodsUptoCardSaid : Prop := Claim7.holds Tryd.pinned (.plain (OpenSpec.upto schemaGoodsSpec)) schemaGoodsUptoCard

/-- THE SECOND FORM's CARD OF 'concordlaw04.SchemaGoodOne'. -/
def schemaGoodOneUptoCard : Claim7 := { stood := { row := schemaGoodOneUptoRow, standIns := [], harness := (true, "16bbff9cf0e3b0f1fedf269d15f373a8095d25cb9e80e50104536889bc5acf9f"), looks := true }, kinds := [], alts := [], laidByText := true, laidKinds := [.sentinel, .sentinel, .sentinel, .sentinel, .sentinel, .sentinel, .sentinel, .sentinel, .sentinel, .sentinel, .sentinel, .sentinel, .sentinel, .sentinel, .sentinel, .sentinel, .sentinel, .sentinel, .sentinel, .sentinel, .sentinel, .sentinel, .sentinel, .sentinel], laidTests := true, laidLooks := .later }
def SchemaGoodOneUptoCardSaid : Prop := Claim7.holds Tryd.pinned (.plain (OpenSpec.upto schemaGoodOneSpec)) schemaGoodOneUptoCard

/-- THE SECOND FORM's CARD OF 'concordlaw04.SchemaBytes'. -/
def schemaBytesUptoCard : Claim7 := { stood := { row := schemaBytesUptoRow, standIns := [], harness := (true, "16bbff9cf0e3b0f1fedf269d15f373a8095d25cb9e80e50104536889bc5acf9f"), looks := true }, kinds := [], alts := [], laidByText := true, laidKinds := [.sentinel, .sentinel, .sentinel, .sentinel, .sentinel, .sentinel, .sentinel, .sentinel, .sentinel, .sentinel, .sentinel, .sentinel, .sentinel, .sentinel, .sentinel, .sentinel, .sentinel, .sentinel, .sentinel, .sentinel, .sentinel, .sentinel, .sentinel, .sentinel], laidTests := true, laidLooks := .later }
def SchemaBytesUptoCardSaid : Prop := Claim7.holds Tryd.pinned (.plain (OpenSpec.upto schemaBytesSpec)) schemaBytesUptoCard
end Rows
end Go.Proofs.YtdkalcecmdadeaaDoor
