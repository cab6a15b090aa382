/-
  DERIVED. GIVEN WITH THE SEED: THE PROGRAM's TIES (one call each: nine closed facts by the kernel) AND EACH ROW's TIE, after the 31st guide's Derived/Test/Toyas{Tie, Card}.lean. No idea stands in it: it is a product of the set-up. Laid BY PROGRAM, IN A SANDBOX (cutbox-door.mjs). By AI agents, Wed Nov 11 2026. No macro, syntax, notation, axiom, sorry.
-/
import Derived.Test.YtlgcofinmpckkaaDoorRows
import Derived.LaidByTextLater
import Derived.SevenTiedAt
import Derived.LaidSub
import Derived.LaidOnce
namespace Go.Proofs.YtlgcofinmpckkaaDoor
open Go
set_option maxRecDepth 100000
theorem seatTie1 : Tryd.prog.laidByTextLater [("concord/api.ErrShort", Rows.laid_concord_api_ErrShort), ("concord/api.ErrVarint", Rows.laid_concord_api_ErrVarint), ("concord/api.ErrLimit", Rows.laid_concord_api_ErrLimit), ("concord/api.ErrOrder", Rows.laid_concord_api_ErrOrder), ("concord/api.ErrTail", Rows.laid_concord_api_ErrTail), ("concord/api.ErrTag", Rows.laid_concord_api_ErrTag), ("concord/api.ErrSum", Rows.laid_concord_api_ErrSum), ("concord/api.ErrRange", Rows.laid_concord_api_ErrRange), ("concord/api.ErrSize", Rows.laid_concord_api_ErrSize), ("concord/api.ErrCorrupt", Rows.laid_concord_api_ErrCorrupt), ("concord/api.ErrSchema", Rows.laid_concord_api_ErrSchema), ("concord/api.ErrField", Rows.laid_concord_api_ErrField), ("concord/api.ErrValue", Rows.laid_concord_api_ErrValue), ("concord/api.ErrPattern", Rows.laid_concord_api_ErrPattern), ("concord/api.ErrStates", Rows.laid_concord_api_ErrStates), ("concord/api.ErrSyntax", Rows.laid_concord_api_ErrSyntax), ("concord/api.ErrDeep", Rows.laid_concord_api_ErrDeep), ("concord/api.ErrNode", Rows.laid_concord_api_ErrNode), ("concord/api.ErrTerms", Rows.laid_concord_api_ErrTerms), ("concord/api.ErrScore", Rows.laid_concord_api_ErrScore), ("concord/api.ErrCode", Rows.laid_concord_api_ErrCode), ("concord/api.ErrFuel", Rows.laid_concord_api_ErrFuel), ("concord/api.ErrDoc", Rows.laid_concord_api_ErrDoc), ("concord/api.ErrCommand", Rows.laid_concord_api_ErrCommand), ("concord/lexer.classes", Rows.laid_concord_lexer_classes)] [.sentinel, .sentinel, .sentinel, .sentinel, .sentinel, .sentinel, .sentinel, .sentinel, .sentinel, .sentinel, .sentinel, .sentinel, .sentinel, .sentinel, .sentinel, .sentinel, .sentinel, .sentinel, .sentinel, .sentinel, .sentinel, .sentinel, .sentinel, .sentinel, .data] true :=
  Program.laidByTextLater_by_one 470 8 129 (by kernel_rfl) (by kernel_rfl) (by kernel_rfl) (by kernel_rfl) (by kernel_rfl) (by kernel_rfl) (fun _ _ => by kernel_rfl)
theorem noOwnUnsafe : Tryd.pinned.checked.prog.headLifts.contains "ownunsafe" = false := by kernel_rfl
theorem tie : Tryd.prog.laidByTextLater [("concord/lexer.classes", Rows.laid_concord_lexer_classes)] [.data] true :=
  Program.laidByTextLater.sub seatTie1 ["concord/lexer.classes"] (by kernel_rfl) (by kernel_rfl)
theorem lexerWrites_row_tie : Rows.lexerWritesRow.laidByTextAt .later Tryd.pinned [.data] true :=
  OpenClaim.laidByTextAt_later rfl rfl tie noOwnUnsafe
theorem tie2 : Tryd.prog.laidByTextLater [("concord/api.ErrShort", Rows.laid_concord_api_ErrShort), ("concord/api.ErrVarint", Rows.laid_concord_api_ErrVarint), ("concord/api.ErrLimit", Rows.laid_concord_api_ErrLimit), ("concord/api.ErrOrder", Rows.laid_concord_api_ErrOrder), ("concord/api.ErrTail", Rows.laid_concord_api_ErrTail), ("concord/api.ErrTag", Rows.laid_concord_api_ErrTag), ("concord/api.ErrSum", Rows.laid_concord_api_ErrSum), ("concord/api.ErrRange", Rows.laid_concord_api_ErrRange), ("concord/api.ErrSize", Rows.laid_concord_api_ErrSize), ("concord/api.ErrCorrupt", Rows.laid_concord_api_ErrCorrupt), ("concord/api.ErrSchema", Rows.laid_concord_api_ErrSchema), ("concord/api.ErrField", Rows.laid_concord_api_ErrField), ("concord/api.ErrValue", Rows.laid_concord_api_ErrValue), ("concord/api.ErrPattern", Rows.laid_concord_api_ErrPattern), ("concord/api.ErrStates", Rows.laid_concord_api_ErrStates), ("concord/api.ErrSyntax", Rows.laid_concord_api_ErrSyntax), ("concord/api.ErrDeep", Rows.laid_concord_api_ErrDeep), ("concord/api.ErrNode", Rows.laid_concord_api_ErrNode), ("concord/api.ErrTerms", Rows.laid_concord_api_ErrTerms), ("concord/api.ErrScore", Rows.laid_concord_api_ErrScore), ("concord/api.ErrCode", Rows.laid_concord_api_ErrCode), ("concord/api.ErrFuel", Rows.laid_concord_api_ErrFuel), ("concord/api.ErrDoc", Rows.laid_concord_api_ErrDoc), ("concord/api.ErrCommand", Rows.laid_concord_api_ErrCommand), ("concord/lexer.classes", Rows.laid_concord_lexer_classes)] [.sentinel, .sentinel, .sentinel, .sentinel, .sentinel, .sentinel, .sentinel, .sentinel, .sentinel, .sentinel, .sentinel, .sentinel, .sentinel, .sentinel, .sentinel, .sentinel, .sentinel, .sentinel, .sentinel, .sentinel, .sentinel, .sentinel, .sentinel, .sentinel, .data] true :=
  Program.laidByTextLater.sub seatTie1 ["concord/api.ErrShort", "concord/api.ErrVarint", "concord/api.ErrLimit", "concord/api.ErrOrder", "concord/api.ErrTail", "concord/api.ErrTag", "concord/api.ErrSum", "concord/api.ErrRange", "concord/api.ErrSize", "concord/api.ErrCorrupt", "concord/api.ErrSchema", "concord/api.ErrField", "concord/api.ErrValue", "concord/api.ErrPattern", "concord/api.ErrStates", "concord/api.ErrSyntax", "concord/api.ErrDeep", "concord/api.ErrNode", "concord/api.ErrTerms", "concord/api.ErrScore", "concord/api.ErrCode", "concord/api.ErrFuel", "concord/api.ErrDoc", "concord/api.ErrCommand", "concord/lexer.classes"] (by kernel_rfl) (by kernel_rfl)
theorem lexerScans_row_tie : Rows.lexerScansRow.laidByTextAt .later Tryd.pinned [.sentinel, .sentinel, .sentinel, .sentinel, .sentinel, .sentinel, .sentinel, .sentinel, .sentinel, .sentinel, .sentinel, .sentinel, .sentinel, .sentinel, .sentinel, .sentinel, .sentinel, .sentinel, .sentinel, .sentinel, .sentinel, .sentinel, .sentinel, .sentinel, .data] true :=
  OpenClaim.laidByTextAt_later rfl rfl tie2 noOwnUnsafe
theorem tie3 : Tryd.prog.laidByTextLater [("concord/api.ErrSyntax", Rows.laid_concord_api_ErrSyntax), ("concord/lexer.classes", Rows.laid_concord_lexer_classes)] [.sentinel, .data] true :=
  Program.laidByTextLater.sub seatTie1 ["concord/api.ErrSyntax", "concord/lexer.classes"] (by kernel_rfl) (by kernel_rfl)
theorem lexerCovers_row_tie : Rows.lexerCoversRow.laidByTextAt .later Tryd.pinned [.sentinel, .data] true :=
  OpenClaim.laidByTextAt_later rfl rfl tie3 noOwnUnsafe
theorem lexerBeside_row_tie : Rows.lexerBesideRow.laidByTextAt .later Tryd.pinned [.sentinel, .data] true :=
  OpenClaim.laidByTextAt_later rfl rfl tie3 noOwnUnsafe
theorem lexerFaults_row_tie : Rows.lexerFaultsRow.laidByTextAt .later Tryd.pinned [.sentinel, .data] true :=
  OpenClaim.laidByTextAt_later rfl rfl tie3 noOwnUnsafe
theorem lexerBack_row_tie : Rows.lexerBackRow.laidByTextAt .later Tryd.pinned [.sentinel, .data] true :=
  OpenClaim.laidByTextAt_later rfl rfl tie3 noOwnUnsafe
theorem lexerWritesUpto_row_tie : Rows.lexerWritesUptoRow.laidByTextAt .later Tryd.pinned [.data] true :=
  OpenClaim.laidByTextAt_later rfl rfl tie noOwnUnsafe
theorem lexerScansUpto_row_tie : Rows.lexerScansUptoRow.laidByTextAt .later Tryd.pinned [.sentinel, .sentinel, .sentinel, .sentinel, .sentinel, .sentinel, .sentinel, .sentinel, .sentinel, .sentinel, .sentinel, .sentinel, .sentinel, .sentinel, .sentinel, .sentinel, .sentinel, .sentinel, .sentinel, .sentinel, .sentinel, .sentinel, .sentinel, .sentinel, .data] true :=
  OpenClaim.laidByTextAt_later rfl rfl tie2 noOwnUnsafe
theorem lexerCoversUpto_row_tie : Rows.lexerCoversUptoRow.laidByTextAt .later Tryd.pinned [.sentinel, .data] true :=
  OpenClaim.laidByTextAt_later rfl rfl tie3 noOwnUnsafe
theorem lexerBesideUpto_row_tie : Rows.lexerBesideUptoRow.laidByTextAt .later Tryd.pinned [.sentinel, .data] true :=
  OpenClaim.laidByTextAt_later rfl rfl tie3 noOwnUnsafe
theorem lexerFaultsUpto_row_tie : Rows.lexerFaultsUptoRow.laidByTextAt .later Tryd.pinned [.sentinel, .data] true :=
  OpenClaim.laidByTextAt_later rfl rfl tie3 noOwnUnsafe
theorem lexerBackUpto_row_tie : Rows.lexerBackUptoRow.laidByTextAt .later Tryd.pinned [.sentinel, .data] true :=
  OpenClaim.laidByTextAt_later rfl rfl tie3 noOwnUnsafe
end Go.Proofs.YtlgcofinmpckkaaDoor
