/-
  DERIVED. GIVEN WITH THE SEED: THE CARDS: each row of YtcomdkejpaoneaaDoorRows.lean that lists a variable, with what it lists TIED to the program's text (the seventh form; the later family's looks); each row that meets fmt, with fmt's text TOLD by the authors' own Lean function (tested against real Go, not proved from fmt's source: count such statements apart). THE CARD IS WHAT COUNTS. Prove the row's statement (the work); the ties are given (YtcomdkejpaoneaaDoorTie.lean); close each card by the builder's one call (the guide's Derived/Test/ToyasCard.lean, 'card_holds'). Laid BY PROGRAM, IN A SANDBOX (cutbox-door.mjs). By AI agents, Wed Nov 11 2026. No macro, syntax, notation, axiom, sorry.
-/
import Derived.Test.YtcomdkejpaoneaaDoorRows
import GoSem.ClaimSeven
namespace Go.Proofs.YtcomdkejpaoneaaDoor
namespace Rows

/-- THE TIED CARD OF 'concordlaw14.SyntaxChecks'. -/
def syntaxChecksCard : Claim7 := { stood := { row := syntaxChecksRow, standIns := [], harness := (true, "ab57a86cf199f08b75dabad034d56cadfd6eecc5c9daae02d9766ee5b3992169"), looks := true }, kinds := [], alts := [], laidByText := true, laidKinds := [.sentinel, .sentinel, .sentinel, .sentinel, .sentinel, .sentinel, .sentinel, .sentinel, .sentinel, .sentinel, .sentinel, .sentinel, .sentinel, .sentinel, .sentinel, .sentinel, .sentinel, .sentinel, .sentinel, .sentinel, .sentinel, .sentinel, .sentinel, .sentinel, .data], laidTests := true, laidLooks := .later }
def SyntaxChecksCardSaid : Prop := Claim7.holds Tryd.pinned (.plain (OpenSpec.ofChange syntaxChecksSpec)) syntaxChecksCard

/-- THE TIED CARD OF 'concordlaw14.SyntaxParses'. -/
def syntaxParsesCard : Claim7 := { stood := { row := syntaxParsesRow, standIns := [], harness := (true, "ab57a86cf199f08b75dabad034d56cadfd6eecc5c9daae02d9766ee5b3992169"), looks := true }, kinds := [], alts := [], laidByText := true, laidKinds := [.sentinel, .sentinel, .sentinel, .sentinel, .sentinel, .sentinel, .sentinel, .sentinel, .sentinel, .sentinel, .sentinel, .sentinel, .sentinel, .sentinel, .sentinel, .sentinel, .sentinel, .sentinel, .sentinel, .sentinel, .sentinel, .sentinel, .sentinel, .sentinel, .data], laidTests := true, laidLooks := .later }
def SyntaxParsesCardSaid : Prop := Claim7.holds Tryd.pinned (.plain (OpenSpec.ofChange syntaxParsesSpec)) syntaxParsesCard

/-- THE TIED CARD OF 'concordlaw14.SyntaxAgree'. -/
def syntaxAgreeCard : Claim7 := { stood := { row := syntaxAgreeRow, standIns := [], harness := (true, "ab57a86cf199f08b75dabad034d56cadfd6eecc5c9daae02d9766ee5b3992169"), looks := true }, kinds := [], alts := [], laidByText := true, laidKinds := [.sentinel, .sentinel, .sentinel, .sentinel, .sentinel, .sentinel, .sentinel, .sentinel, .sentinel, .sentinel, .sentinel, .sentinel, .sentinel, .sentinel, .sentinel, .sentinel, .sentinel, .sentinel, .sentinel, .sentinel, .sentinel, .sentinel, .sentinel, .sentinel, .data], laidTests := true, laidLooks := .later }
def SyntaxAgreeCardSaid : Prop := Claim7.holds Tryd.pinned (.plain (OpenSpec.ofChange syntaxAgreeSpec)) syntaxAgreeCard

/-- THE TIED CARD OF 'concordlaw14.SyntaxOneWay'. -/
def syntaxOneWayCard : Claim7 := { stood := { row := syntaxOneWayRow, standIns := [], harness := (true, "ab57a86cf199f08b75dabad034d56cadfd6eecc5c9daae02d9766ee5b3992169"), looks := true }, kinds := [], alts := [], laidByText := true, laidKinds := [.sentinel, .sentinel, .data], laidTests := true, laidLooks := .later }
def SyntaxOneWayCardSaid : Prop := Claim7.holds Tryd.pinned (.plain (OpenSpec.ofChange syntaxOneWaySpec)) syntaxOneWayCard

/-- THE TIED CARD OF 'concordlaw14.SyntaxBrackets'. -/
def syntaxBracketsCard : Claim7 := { stood := { row := syntaxBracketsRow, standIns := [], harness := (true, "ab57a86cf199f08b75dabad034d56cadfd6eecc5c9daae02d9766ee5b3992169"), looks := true }, kinds := [], alts := [], laidByText := true, laidKinds := [.sentinel, .sentinel, .data], laidTests := true, laidLooks := .later }
def SyntaxBracketsCardSaid : Prop := Claim7.holds Tryd.pinned (.plain (OpenSpec.ofChange syntaxBracketsSpec)) syntaxBracketsCard

/-- THE TIED CARD OF 'concordlaw14.SyntaxBlanks'. -/
def syntaxBlanksCard : Claim7 := { stood := { row := syntaxBlanksRow, standIns := [], harness := (true, "ab57a86cf199f08b75dabad034d56cadfd6eecc5c9daae02d9766ee5b3992169"), looks := true }, kinds := [], alts := [], laidByText := true, laidKinds := [.sentinel, .sentinel, .sentinel, .sentinel, .sentinel, .sentinel, .sentinel, .sentinel, .sentinel, .sentinel, .sentinel, .sentinel, .sentinel, .sentinel, .sentinel, .sentinel, .sentinel, .sentinel, .sentinel, .sentinel, .sentinel, .sentinel, .sentinel, .sentinel, .data], laidTests := true, laidLooks := .later }
def SyntaxBlanksCardSaid : Prop := Claim7.holds Tryd.pinned (.plain (OpenSpec.ofChange syntaxBlanksSpec)) syntaxBlanksCard

/-- THE TIED CARD OF 'concordlaw14.SyntaxJoins'. -/
def syntaxJoinsCard : Claim7 := { stood := { row := syntaxJoinsRow, standIns := [], harness := (true, "ab57a86cf199f08b75dabad034d56cadfd6eecc5c9daae02d9766ee5b3992169"), looks := true }, kinds := [], alts := [], laidByText := true, laidKinds := [.sentinel, .sentinel, .data], laidTests := true, laidLooks := .later }
def SyntaxJoinsCardSaid : Prop := Claim7.holds Tryd.pinned (.plain (OpenSpec.ofChange syntaxJoinsSpec)) syntaxJoinsCard

/-- THE TIED CARD OF 'concordlaw14.SyntaxLeaves'. -/
def syntaxLeavesCard : Claim7 := { stood := { row := syntaxLeavesRow, standIns := [], harness := (true, "ab57a86cf199f08b75dabad034d56cadfd6eecc5c9daae02d9766ee5b3992169"), looks := true }, kinds := [], alts := [], laidByText := true, laidKinds := [.sentinel, .sentinel, .data], laidTests := true, laidLooks := .later }
def SyntaxLeavesCardSaid : Prop := Claim7.holds Tryd.pinned (.plain (OpenSpec.ofChange syntaxLeavesSpec)) syntaxLeavesCard

/-- THE TIED CARD OF 'concordlaw14.SyntaxEnds'. -/
def syntaxEndsCard : Claim7 := { stood := { row := syntaxEndsRow, standIns := [], harness := (true, "ab57a86cf199f08b75dabad034d56cadfd6eecc5c9daae02d9766ee5b3992169"), looks := true }, kinds := [], alts := [], laidByText := true, laidKinds := [.sentinel, .sentinel, .data], laidTests := true, laidLooks := .later }
def SyntaxEndsCardSaid : Prop := Claim7.holds Tryd.pinned (.plain (OpenSpec.ofChange syntaxEndsSpec)) syntaxEndsCard

/-- THE TIED CARD OF 'concordlaw14.SyntaxFollows'. -/
def syntaxFollowsCard : Claim7 := { stood := { row := syntaxFollowsRow, standIns := [], harness := (true, "ab57a86cf199f08b75dabad034d56cadfd6eecc5c9daae02d9766ee5b3992169"), looks := true }, kinds := [], alts := [], laidByText := true, laidKinds := [.sentinel, .sentinel, .data], laidTests := true, laidLooks := .later }
def SyntaxFollowsCardSaid : Prop := Claim7.holds Tryd.pinned (.plain (OpenSpec.ofChange syntaxFollowsSpec)) syntaxFollowsCard

/-- THE TIED CARD OF 'concordlaw14.SyntaxWays'. -/
def syntaxWaysCard : Claim7 := { stood := { row := syntaxWaysRow, standIns := [], harness := (true, "ab57a86cf199f08b75dabad034d56cadfd6eecc5c9daae02d9766ee5b3992169"), looks := true }, kinds := [], alts := [], laidByText := true, laidKinds := [.sentinel, .sentinel, .data], laidTests := true, laidLooks := .later }
def SyntaxWaysCardSaid : Prop := Claim7.holds Tryd.pinned (.plain (OpenSpec.ofChange syntaxWaysSpec)) syntaxWaysCard

/-- THE SECOND FORM's CARD OF 'concordlaw14.SyntaxChecks'. -/
def syntaxChecksUptoCard : Claim7 := { stood := { row := syntaxChecksUptoRow, standIns := [], harness := (true, "ab57a86cf199f08b75dabad034d56cadfd6eecc5c9daae02d9766ee5b3992169"), looks := true }, kinds := [], alts := [], laidByText := true, laidKinds := [.sentinel, .sentinel, .sentinel, .sentinel, .sentinel, .sentinel, .sentinel, .sentinel, .sentinel, .sentinel, .sentinel, .sentinel, .sentinel, .sentinel, .sentinel, .sentinel, .sentinel, .sentinel, .sentinel, .sentinel, .sentinel, .sentinel, .sentinel, .sentinel, .data], laidTests := true, laidLooks := .later }
def SyntaxChecksUptoCardSaid : Prop := Claim7.holds Tryd.pinned (.plain (OpenSpec.upto syntaxChecksSpec)) syntaxChecksUptoCard

/-- THE SECOND FORM's CARD OF 'concordlaw14.SyntaxParses'. -/
def syntaxParsesUptoCard : Claim7 := { stood := { row := syntaxParsesUptoRow, standIns := [], harness := (true, "ab57a86cf199f08b75dabad034d56cadfd6eecc5c9daae02d9766ee5b3992169"), looks := true }, kinds := [], alts := [], laidByText := true, laidKinds := [.sentinel, .sentinel, .sentinel, .sentinel, .sentinel, .sentinel, .sentinel, .sentinel, .sentinel, .sentinel, .sentinel, .sentinel, .sentinel, .sentinel, .sentinel, .sentinel, .sentinel, .sentinel, .sentinel, .sentinel, .sentinel, .sentinel, .sentinel, .sentinel, .data], laidTests := true, laidLooks := .later }
def SyntaxParsesUptoCardSaid : Prop := Claim7.holds Tryd.pinned (.plain (OpenSpec.upto syntaxParsesSpec)) syntaxParsesUptoCard

/-- THE SECOND FORM's CARD OF 'concordlaw14.SyntaxAgree'. -/
def syntaxAgreeUptoCard : Claim7 := { stood := { row := syntaxAgreeUptoRow, standIns := [], harness := (true, "ab57a86cf199f08b75dabad034d56cadfd6eecc5c9daae02d9766ee5b3992169"), looks := true }, kinds := [], alts := [], laidByText := true, laidKinds := [.sentinel, .sentinel, .sentinel, .sentinel, .sentinel, .sentinel, .sentinel, .sentinel, .sentinel, .sentinel, .sentinel, .sentinel, .sentinel, .sentinel, .sentinel, .sentinel, .sentinel, .sentinel, .sentinel, .sentinel, .sentinel, .sentinel, .sentinel, .sentinel, .data], laidTests := true, laidLooks := .later }
def SyntaxAgreeUptoCardSaid : Prop := Claim7.holds Tryd.pinned (.plain (OpenSpec.upto syntaxAgreeSpec)) syntaxAgreeUptoCard

/-- THE SECOND FORM's CARD OF 'concordlaw14.SyntaxOneWay'. -/
def syntaxOneWayUptoCard : Claim7 := { stood := { row := syntaxOneWayUptoRow, standIns := [], harness := (true, "ab57a86cf199f08b75dabad034d56cadfd6eecc5c9daae02d9766ee5b3992169"), looks := true }, kinds := [], alts := [], laidByText := true, laidKinds := [.sentinel, .sentinel, .data], laidTests := true, laidLooks := .later }
def SyntaxOneWayUptoCardSaid : Prop := Claim7.holds Tryd.pinned (.plain (OpenSpec.upto syntaxOneWaySpec)) syntaxOneWayUptoCard

/-- THE SECOND FORM's CARD OF 'concordlaw14.SyntaxBrackets'. -/
def syntaxBracketsUptoCard : Claim7 := { stood := { row := syntaxBracketsUptoRow, standIns := [], harness := (true, "ab57a86cf199f08b75dabad034d56cadfd6eecc5c9daae02d9766ee5b3992169"), looks := true }, kinds := [], alts := [], laidByText := true, laidKinds := [.sentinel, .sentinel, .data], laidTests := true, laidLooks := .later }
def SyntaxBracketsUptoCardSaid : Prop := Claim7.holds Tryd.pinned (.plain (OpenSpec.upto syntaxBracketsSpec)) syntaxBracketsUptoCard

/-- THE SECOND FORM's CARD OF 'concordlaw14.SyntaxBlanks'. -/
def syntaxBlanksUptoCard : Claim7 := { stood := { row := syntaxBlanksUptoRow, standIns := [], harness := (true, "ab57a86cf199f08b75dabad034d56cadfd6eecc5c9daae02d9766ee5b3992169"), looks := true }, kinds := [], alts := [], laidByText := true, laidKinds := [.sentinel, .sentinel, .sentinel, .sentinel, .sentinel, .sentinel, .sentinel, .sentinel, .sentinel, .sentinel, .sentinel, .sentinel, .sentinel, .sentinel, .sentinel, .sentinel, .sentinel, .sentinel, .sentinel, .sentinel, .sentinel, .sentinel, .sentinel, .sentinel, .data], laidTests := true, laidLooks := .later }
def SyntaxBlanksUptoCardSaid : Prop := Claim7.holds Tryd.pinned (.plain (OpenSpec.upto syntaxBlanksSpec)) syntaxBlanksUptoCard

/-- THE SECOND FORM's CARD OF 'concordlaw14.SyntaxJoins'. -/
def syntaxJoinsUptoCard : Claim7 := { stood := { row := syntaxJoinsUptoRow, standIns := [], harness := (true, "ab57a86cf199f08b75dabad034d56cadfd6eecc5c9daae02d9766ee5b3992169"), looks := true }, kinds := [], alts := [], laidByText := true, laidKinds := [.sentinel, .sentinel, .data], laidTests := true, laidLooks := .later }
def SyntaxJoinsUptoCardSaid : Prop := Claim7.holds Tryd.pinned (.plain (OpenSpec.upto syntaxJoinsSpec)) syntaxJoinsUptoCard

/-- THE SECOND FORM's CARD OF 'concordlaw14.SyntaxLeaves'. -/
def syntaxLeavesUptoCard : Claim7 := { stood := { row := syntaxLeavesUptoRow, standIns := [], harness := (true, "ab57a86cf199f08b75dabad034d56cadfd6eecc5c9daae02d9766ee5b3992169"), looks := true }, kinds := [], alts := [], laidByText := true, laidKinds := [.sentinel, .sentinel, .data], laidTests := true, laidLooks := .later }
def SyntaxLeavesUptoCardSaid : Prop := Claim7.holds Tryd.pinned (.plain (OpenSpec.upto syntaxLeavesSpec)) syntaxLeavesUptoCard

/-- THE SECOND FORM's CARD OF 'concordlaw14.SyntaxEnds'. -/
def syntaxEndsUptoCard : Claim7 := { stood := { row := syntaxEndsUptoRow, standIns := [], harness := (true, "ab57a86cf199f08b75dabad034d56cadfd6eecc5c9daae02d9766ee5b3992169"), looks := true }, kinds := [], alts := [], laidByText := true, laidKinds := [.sentinel, .sentinel, .data], laidTests := true, laidLooks := .later }
def SyntaxEndsUptoCardSaid : Prop := Claim7.holds Tryd.pinned (.plain (OpenSpec.upto syntaxEndsSpec)) syntaxEndsUptoCard

/-- THE SECOND FORM's CARD OF 'concordlaw14.SyntaxFollows'. -/
def syntaxFollowsUptoCard : Claim7 := { stood := { row := syntaxFollowsUptoRow, standIns := [], harness := (true, "ab57a86cf199f08b75dabad034d56cadfd6eecc5c9daae02d9766ee5b3992169"), looks := true }, kinds := [], alts := [], laidByText := true, laidKinds := [.sentinel, .sentinel, .data], laidTests := true, laidLooks := .later }
def SyntaxFollowsUptoCardSaid : Prop := Claim7.holds Tryd.pinned (.plain (OpenSpec.upto syntaxFollowsSpec)) syntaxFollowsUptoCard

/-- THE SECOND FORM's CARD OF 'concordlaw14.SyntaxWays'. -/
def syntaxWaysUptoCard : Claim7 := { stood := { row := syntaxWaysUptoRow, standIns := [], harness := (true, "ab57a86cf199f08b75dabad034d56cadfd6eecc5c9daae02d9766ee5b3992169"), looks := true }, kinds := [], alts := [], laidByText := true, laidKinds := [.sentinel, .sentinel, .data], laidTests := true, laidLooks := .later }
def SyntaxWaysUptoCardSaid : Prop := Claim7.holds Tryd.pinned (.plain (OpenSpec.upto syntaxWaysSpec)) syntaxWaysUptoCard
end Rows
end Go.Proofs.YtcomdkejpaoneaaDoor
