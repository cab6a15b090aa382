/-
  DERIVED. GIVEN WITH THE SEED: THE PROGRAM's TIES (one call each: nine closed facts by the kernel) AND EACH ROW's TIE, after the 31st guide's Derived/Test/Toyas{Tie, Card}.lean. No idea stands in it: it is a product of the set-up. Laid BY PROGRAM, IN A SANDBOX (cutbox-door.mjs). By AI agents, Wed Nov 11 2026. No macro, syntax, notation, axiom, sorry.
-/
import Derived.Test.YtcomdkejpaoneaaDoorRows
import Derived.LaidByTextLater
import Derived.SevenTiedAt
import Derived.LaidSub
import Derived.LaidOnce
namespace Go.Proofs.YtcomdkejpaoneaaDoor
open Go
set_option maxRecDepth 100000
theorem seatTie1 : Tryd.prog.laidByTextLater [("concord/api.ErrShort", Rows.laid_concord_api_ErrShort), ("concord/api.ErrVarint", Rows.laid_concord_api_ErrVarint), ("concord/api.ErrLimit", Rows.laid_concord_api_ErrLimit), ("concord/api.ErrOrder", Rows.laid_concord_api_ErrOrder), ("concord/api.ErrTail", Rows.laid_concord_api_ErrTail), ("concord/api.ErrTag", Rows.laid_concord_api_ErrTag), ("concord/api.ErrSum", Rows.laid_concord_api_ErrSum), ("concord/api.ErrRange", Rows.laid_concord_api_ErrRange), ("concord/api.ErrSize", Rows.laid_concord_api_ErrSize), ("concord/api.ErrCorrupt", Rows.laid_concord_api_ErrCorrupt), ("concord/api.ErrSchema", Rows.laid_concord_api_ErrSchema), ("concord/api.ErrField", Rows.laid_concord_api_ErrField), ("concord/api.ErrValue", Rows.laid_concord_api_ErrValue), ("concord/api.ErrPattern", Rows.laid_concord_api_ErrPattern), ("concord/api.ErrStates", Rows.laid_concord_api_ErrStates), ("concord/api.ErrSyntax", Rows.laid_concord_api_ErrSyntax), ("concord/api.ErrDeep", Rows.laid_concord_api_ErrDeep), ("concord/api.ErrNode", Rows.laid_concord_api_ErrNode), ("concord/api.ErrTerms", Rows.laid_concord_api_ErrTerms), ("concord/api.ErrScore", Rows.laid_concord_api_ErrScore), ("concord/api.ErrCode", Rows.laid_concord_api_ErrCode), ("concord/api.ErrFuel", Rows.laid_concord_api_ErrFuel), ("concord/api.ErrDoc", Rows.laid_concord_api_ErrDoc), ("concord/api.ErrCommand", Rows.laid_concord_api_ErrCommand), ("concord/lexer.classes", Rows.laid_concord_lexer_classes)] [.sentinel, .sentinel, .sentinel, .sentinel, .sentinel, .sentinel, .sentinel, .sentinel, .sentinel, .sentinel, .sentinel, .sentinel, .sentinel, .sentinel, .sentinel, .sentinel, .sentinel, .sentinel, .sentinel, .sentinel, .sentinel, .sentinel, .sentinel, .sentinel, .data] true :=
  Program.laidByTextLater_by_one 470 8 129 (by kernel_rfl) (by kernel_rfl) (by kernel_rfl) (by kernel_rfl) (by kernel_rfl) (by kernel_rfl) (fun _ _ => by kernel_rfl)
theorem noOwnUnsafe : Tryd.pinned.checked.prog.headLifts.contains "ownunsafe" = false := by kernel_rfl
theorem tie : Tryd.prog.laidByTextLater [("concord/api.ErrShort", Rows.laid_concord_api_ErrShort), ("concord/api.ErrVarint", Rows.laid_concord_api_ErrVarint), ("concord/api.ErrLimit", Rows.laid_concord_api_ErrLimit), ("concord/api.ErrOrder", Rows.laid_concord_api_ErrOrder), ("concord/api.ErrTail", Rows.laid_concord_api_ErrTail), ("concord/api.ErrTag", Rows.laid_concord_api_ErrTag), ("concord/api.ErrSum", Rows.laid_concord_api_ErrSum), ("concord/api.ErrRange", Rows.laid_concord_api_ErrRange), ("concord/api.ErrSize", Rows.laid_concord_api_ErrSize), ("concord/api.ErrCorrupt", Rows.laid_concord_api_ErrCorrupt), ("concord/api.ErrSchema", Rows.laid_concord_api_ErrSchema), ("concord/api.ErrField", Rows.laid_concord_api_ErrField), ("concord/api.ErrValue", Rows.laid_concord_api_ErrValue), ("concord/api.ErrPattern", Rows.laid_concord_api_ErrPattern), ("concord/api.ErrStates", Rows.laid_concord_api_ErrStates), ("concord/api.ErrSyntax", Rows.laid_concord_api_ErrSyntax), ("concord/api.ErrDeep", Rows.laid_concord_api_ErrDeep), ("concord/api.ErrNode", Rows.laid_concord_api_ErrNode), ("concord/api.ErrTerms", Rows.laid_concord_api_ErrTerms), ("concord/api.ErrScore", Rows.laid_concord_api_ErrScore), ("concord/api.ErrCode", Rows.laid_concord_api_ErrCode), ("concord/api.ErrFuel", Rows.laid_concord_api_ErrFuel), ("concord/api.ErrDoc", Rows.laid_concord_api_ErrDoc), ("concord/api.ErrCommand", Rows.laid_concord_api_ErrCommand), ("concord/lexer.classes", Rows.laid_concord_lexer_classes)] [.sentinel, .sentinel, .sentinel, .sentinel, .sentinel, .sentinel, .sentinel, .sentinel, .sentinel, .sentinel, .sentinel, .sentinel, .sentinel, .sentinel, .sentinel, .sentinel, .sentinel, .sentinel, .sentinel, .sentinel, .sentinel, .sentinel, .sentinel, .sentinel, .data] true :=
  Program.laidByTextLater.sub seatTie1 ["concord/api.ErrShort", "concord/api.ErrVarint", "concord/api.ErrLimit", "concord/api.ErrOrder", "concord/api.ErrTail", "concord/api.ErrTag", "concord/api.ErrSum", "concord/api.ErrRange", "concord/api.ErrSize", "concord/api.ErrCorrupt", "concord/api.ErrSchema", "concord/api.ErrField", "concord/api.ErrValue", "concord/api.ErrPattern", "concord/api.ErrStates", "concord/api.ErrSyntax", "concord/api.ErrDeep", "concord/api.ErrNode", "concord/api.ErrTerms", "concord/api.ErrScore", "concord/api.ErrCode", "concord/api.ErrFuel", "concord/api.ErrDoc", "concord/api.ErrCommand", "concord/lexer.classes"] (by kernel_rfl) (by kernel_rfl)
theorem syntaxChecks_row_tie : Rows.syntaxChecksRow.laidByTextAt .later Tryd.pinned [.sentinel, .sentinel, .sentinel, .sentinel, .sentinel, .sentinel, .sentinel, .sentinel, .sentinel, .sentinel, .sentinel, .sentinel, .sentinel, .sentinel, .sentinel, .sentinel, .sentinel, .sentinel, .sentinel, .sentinel, .sentinel, .sentinel, .sentinel, .sentinel, .data] true :=
  OpenClaim.laidByTextAt_later rfl rfl tie noOwnUnsafe
theorem syntaxParses_row_tie : Rows.syntaxParsesRow.laidByTextAt .later Tryd.pinned [.sentinel, .sentinel, .sentinel, .sentinel, .sentinel, .sentinel, .sentinel, .sentinel, .sentinel, .sentinel, .sentinel, .sentinel, .sentinel, .sentinel, .sentinel, .sentinel, .sentinel, .sentinel, .sentinel, .sentinel, .sentinel, .sentinel, .sentinel, .sentinel, .data] true :=
  OpenClaim.laidByTextAt_later rfl rfl tie noOwnUnsafe
theorem syntaxAgree_row_tie : Rows.syntaxAgreeRow.laidByTextAt .later Tryd.pinned [.sentinel, .sentinel, .sentinel, .sentinel, .sentinel, .sentinel, .sentinel, .sentinel, .sentinel, .sentinel, .sentinel, .sentinel, .sentinel, .sentinel, .sentinel, .sentinel, .sentinel, .sentinel, .sentinel, .sentinel, .sentinel, .sentinel, .sentinel, .sentinel, .data] true :=
  OpenClaim.laidByTextAt_later rfl rfl tie noOwnUnsafe
theorem syntaxBlanks_row_tie : Rows.syntaxBlanksRow.laidByTextAt .later Tryd.pinned [.sentinel, .sentinel, .sentinel, .sentinel, .sentinel, .sentinel, .sentinel, .sentinel, .sentinel, .sentinel, .sentinel, .sentinel, .sentinel, .sentinel, .sentinel, .sentinel, .sentinel, .sentinel, .sentinel, .sentinel, .sentinel, .sentinel, .sentinel, .sentinel, .data] true :=
  OpenClaim.laidByTextAt_later rfl rfl tie noOwnUnsafe
theorem tie2 : Tryd.prog.laidByTextLater [("concord/api.ErrSyntax", Rows.laid_concord_api_ErrSyntax), ("concord/api.ErrDeep", Rows.laid_concord_api_ErrDeep), ("concord/lexer.classes", Rows.laid_concord_lexer_classes)] [.sentinel, .sentinel, .data] true :=
  Program.laidByTextLater.sub seatTie1 ["concord/api.ErrSyntax", "concord/api.ErrDeep", "concord/lexer.classes"] (by kernel_rfl) (by kernel_rfl)
theorem syntaxOneWay_row_tie : Rows.syntaxOneWayRow.laidByTextAt .later Tryd.pinned [.sentinel, .sentinel, .data] true :=
  OpenClaim.laidByTextAt_later rfl rfl tie2 noOwnUnsafe
theorem syntaxBrackets_row_tie : Rows.syntaxBracketsRow.laidByTextAt .later Tryd.pinned [.sentinel, .sentinel, .data] true :=
  OpenClaim.laidByTextAt_later rfl rfl tie2 noOwnUnsafe
theorem syntaxJoins_row_tie : Rows.syntaxJoinsRow.laidByTextAt .later Tryd.pinned [.sentinel, .sentinel, .data] true :=
  OpenClaim.laidByTextAt_later rfl rfl tie2 noOwnUnsafe
theorem syntaxLeaves_row_tie : Rows.syntaxLeavesRow.laidByTextAt .later Tryd.pinned [.sentinel, .sentinel, .data] true :=
  OpenClaim.laidByTextAt_later rfl rfl tie2 noOwnUnsafe
theorem syntaxEnds_row_tie : Rows.syntaxEndsRow.laidByTextAt .later Tryd.pinned [.sentinel, .sentinel, .data] true :=
  OpenClaim.laidByTextAt_later rfl rfl tie2 noOwnUnsafe
theorem syntaxFollows_row_tie : Rows.syntaxFollowsRow.laidByTextAt .later Tryd.pinned [.sentinel, .sentinel, .data] true :=
  OpenClaim.laidByTextAt_later rfl rfl tie2 noOwnUnsafe
theorem syntaxWays_row_tie : Rows.syntaxWaysRow.laidByTextAt .later Tryd.pinned [.sentinel, .sentinel, .data] true :=
  OpenClaim.laidByTextAt_later rfl rfl tie2 noOwnUnsafe
theorem syntaxChecksUpto_row_tie : Rows.syntaxChecksUptoRow.laidByTextAt .later Tryd.pinned [.sentinel, .sentinel, .sentinel, .sentinel, .sentinel, .sentinel, .sentinel, .sentinel, .sentinel, .sentinel, .sentinel, .sentinel, .sentinel, .sentinel, .sentinel, .sentinel, .sentinel, .sentinel, .sentinel, .sentinel, .sentinel, .sentinel, .sentinel, .sentinel, .data] true :=
  OpenClaim.laidByTextAt_later rfl rfl tie noOwnUnsafe
theorem syntaxParsesUpto_row_tie : Rows.syntaxParsesUptoRow.laidByTextAt .later Tryd.pinned [.sentinel, .sentinel, .sentinel, .sentinel, .sentinel, .sentinel, .sentinel, .sentinel, .sentinel, .sentinel, .sentinel, .sentinel, .sentinel, .sentinel, .sentinel, .sentinel, .sentinel, .sentinel, .sentinel, .sentinel, .sentinel, .sentinel, .sentinel, .sentinel, .data] true :=
  OpenClaim.laidByTextAt_later rfl rfl tie noOwnUnsafe
theorem syntaxAgreeUpto_row_tie : Rows.syntaxAgreeUptoRow.laidByTextAt .later Tryd.pinned [.sentinel, .sentinel, .sentinel, .sentinel, .sentinel, .sentinel, .sentinel, .sentinel, .sentinel, .sentinel, .sentinel, .sentinel, .sentinel, .sentinel, .sentinel, .sentinel, .sentinel, .sentinel, .sentinel, .sentinel, .sentinel, .sentinel, .sentinel, .sentinel, .data] true :=
  OpenClaim.laidByTextAt_later rfl rfl tie noOwnUnsafe
theorem syntaxOneWayUpto_row_tie : Rows.syntaxOneWayUptoRow.laidByTextAt .later Tryd.pinned [.sentinel, .sentinel, .data] true :=
  OpenClaim.laidByTextAt_later rfl rfl tie2 noOwnUnsafe
theorem syntaxBracketsUpto_row_tie : Rows.syntaxBracketsUptoRow.laidByTextAt .later Tryd.pinned [.sentinel, .sentinel, .data] true :=
  OpenClaim.laidByTextAt_later rfl rfl tie2 noOwnUnsafe
theorem syntaxBlanksUpto_row_tie : Rows.syntaxBlanksUptoRow.laidByTextAt .later Tryd.pinned [.sentinel, .sentinel, .sentinel, .sentinel, .sentinel, .sentinel, .sentinel, .sentinel, .sentinel, .sentinel, .sentinel, .sentinel, .sentinel, .sentinel, .sentinel, .sentinel, .sentinel, .sentinel, .sentinel, .sentinel, .sentinel, .sentinel, .sentinel, .sentinel, .data] true :=
  OpenClaim.laidByTextAt_later rfl rfl tie noOwnUnsafe
theorem syntaxJoinsUpto_row_tie : Rows.syntaxJoinsUptoRow.laidByTextAt .later Tryd.pinned [.sentinel, .sentinel, .data] true :=
  OpenClaim.laidByTextAt_later rfl rfl tie2 noOwnUnsafe
theorem syntaxLeavesUpto_row_tie : Rows.syntaxLeavesUptoRow.laidByTextAt .later Tryd.pinned [.sentinel, .sentinel, .data] true :=
  OpenClaim.laidByTextAt_later rfl rfl tie2 noOwnUnsafe
theorem syntaxEndsUpto_row_tie : Rows.syntaxEndsUptoRow.laidByTextAt .later Tryd.pinned [.sentinel, .sentinel, .data] true :=
  OpenClaim.laidByTextAt_later rfl rfl tie2 noOwnUnsafe
theorem syntaxFollowsUpto_row_tie : Rows.syntaxFollowsUptoRow.laidByTextAt .later Tryd.pinned [.sentinel, .sentinel, .data] true :=
  OpenClaim.laidByTextAt_later rfl rfl tie2 noOwnUnsafe
theorem syntaxWaysUpto_row_tie : Rows.syntaxWaysUptoRow.laidByTextAt .later Tryd.pinned [.sentinel, .sentinel, .data] true :=
  OpenClaim.laidByTextAt_later rfl rfl tie2 noOwnUnsafe
end Go.Proofs.YtcomdkejpaoneaaDoor
