/-
  DERIVED. GIVEN WITH THE SEED: THE PROGRAM's TIES (one call each: nine closed facts by the kernel) AND EACH ROW's TIE, after the 31st guide's Derived/Test/Toyas{Tie, Card}.lean. No idea stands in it: it is a product of the set-up. Laid BY PROGRAM, IN A SANDBOX (cutbox-door.mjs). By AI agents, Wed Nov 11 2026. No macro, syntax, notation, axiom, sorry.
-/
import Derived.Test.YtmdpfikalekmlaaDoorRows
import Derived.LaidByTextLater
import Derived.SevenTiedAt
import Derived.LaidSub
import Derived.LaidOnce
namespace Go.Proofs.YtmdpfikalekmlaaDoor
open Go
set_option maxRecDepth 100000
theorem seatTie1 : Tryd.prog.laidByTextLater [("math/bits.deBruijn32tab", Rows.laid_math_bits_deBruijn32tab), ("math/bits.deBruijn64tab", Rows.laid_math_bits_deBruijn64tab), ("internal/strconv.uint64pow10", Rows.laid_internal_strconv_uint64pow10), ("concord/api.ErrShort", Rows.laid_concord_api_ErrShort), ("concord/api.ErrVarint", Rows.laid_concord_api_ErrVarint), ("concord/api.ErrLimit", Rows.laid_concord_api_ErrLimit), ("concord/api.ErrOrder", Rows.laid_concord_api_ErrOrder), ("concord/api.ErrTail", Rows.laid_concord_api_ErrTail), ("concord/api.ErrTag", Rows.laid_concord_api_ErrTag), ("concord/api.ErrSum", Rows.laid_concord_api_ErrSum), ("concord/api.ErrRange", Rows.laid_concord_api_ErrRange), ("concord/api.ErrSize", Rows.laid_concord_api_ErrSize), ("concord/api.ErrCorrupt", Rows.laid_concord_api_ErrCorrupt), ("concord/api.ErrSchema", Rows.laid_concord_api_ErrSchema), ("concord/api.ErrField", Rows.laid_concord_api_ErrField), ("concord/api.ErrValue", Rows.laid_concord_api_ErrValue), ("concord/api.ErrPattern", Rows.laid_concord_api_ErrPattern), ("concord/api.ErrStates", Rows.laid_concord_api_ErrStates), ("concord/api.ErrSyntax", Rows.laid_concord_api_ErrSyntax), ("concord/api.ErrDeep", Rows.laid_concord_api_ErrDeep), ("concord/api.ErrNode", Rows.laid_concord_api_ErrNode), ("concord/api.ErrTerms", Rows.laid_concord_api_ErrTerms), ("concord/api.ErrScore", Rows.laid_concord_api_ErrScore), ("concord/api.ErrCode", Rows.laid_concord_api_ErrCode), ("concord/api.ErrFuel", Rows.laid_concord_api_ErrFuel), ("concord/api.ErrDoc", Rows.laid_concord_api_ErrDoc), ("concord/api.ErrCommand", Rows.laid_concord_api_ErrCommand), ("concord/isa.table", Rows.laid_concord_isa_table)] [.data, .data, .data, .sentinel, .sentinel, .sentinel, .sentinel, .sentinel, .sentinel, .sentinel, .sentinel, .sentinel, .sentinel, .sentinel, .sentinel, .sentinel, .sentinel, .sentinel, .sentinel, .sentinel, .sentinel, .sentinel, .sentinel, .sentinel, .sentinel, .sentinel, .sentinel, .data] true :=
  Program.laidByTextLater_by_one 550 8 65 (by kernel_rfl) (by kernel_rfl) (by kernel_rfl) (by kernel_rfl) (by kernel_rfl) (by kernel_rfl) (fun _ _ => by kernel_rfl)
theorem seatTie2 : Tryd.prog.laidByTextLater [("math/bits.deBruijn32tab", Rows.laid_math_bits_deBruijn32tab), ("math/bits.deBruijn64tab", Rows.laid_math_bits_deBruijn64tab), ("internal/strconv.uint64pow10", Rows.laid_internal_strconv_uint64pow10), ("unicode/utf8.acceptRanges", Rows.laid_unicode_utf8_acceptRanges), ("concord/api.ErrShort", Rows.laid_concord_api_ErrShort), ("concord/api.ErrVarint", Rows.laid_concord_api_ErrVarint), ("concord/api.ErrLimit", Rows.laid_concord_api_ErrLimit), ("concord/api.ErrOrder", Rows.laid_concord_api_ErrOrder), ("concord/api.ErrTail", Rows.laid_concord_api_ErrTail), ("concord/api.ErrTag", Rows.laid_concord_api_ErrTag), ("concord/api.ErrSum", Rows.laid_concord_api_ErrSum), ("concord/api.ErrRange", Rows.laid_concord_api_ErrRange), ("concord/api.ErrSize", Rows.laid_concord_api_ErrSize), ("concord/api.ErrCorrupt", Rows.laid_concord_api_ErrCorrupt), ("concord/api.ErrSchema", Rows.laid_concord_api_ErrSchema), ("concord/api.ErrField", Rows.laid_concord_api_ErrField), ("concord/api.ErrValue", Rows.laid_concord_api_ErrValue), ("concord/api.ErrPattern", Rows.laid_concord_api_ErrPattern), ("concord/api.ErrStates", Rows.laid_concord_api_ErrStates), ("concord/api.ErrSyntax", Rows.laid_concord_api_ErrSyntax), ("concord/api.ErrDeep", Rows.laid_concord_api_ErrDeep), ("concord/api.ErrNode", Rows.laid_concord_api_ErrNode), ("concord/api.ErrTerms", Rows.laid_concord_api_ErrTerms), ("concord/api.ErrScore", Rows.laid_concord_api_ErrScore), ("concord/api.ErrCode", Rows.laid_concord_api_ErrCode), ("concord/api.ErrFuel", Rows.laid_concord_api_ErrFuel), ("concord/api.ErrDoc", Rows.laid_concord_api_ErrDoc), ("concord/api.ErrCommand", Rows.laid_concord_api_ErrCommand), ("strconv.ErrRange", Rows.laid_strconv_ErrRange), ("strconv.ErrSyntax", Rows.laid_strconv_ErrSyntax), ("concord/isa.table", Rows.laid_concord_isa_table)] [.data, .data, .data, .data, .sentinel, .sentinel, .sentinel, .sentinel, .sentinel, .sentinel, .sentinel, .sentinel, .sentinel, .sentinel, .sentinel, .sentinel, .sentinel, .sentinel, .sentinel, .sentinel, .sentinel, .sentinel, .sentinel, .sentinel, .sentinel, .sentinel, .sentinel, .sentinel, .sentinel, .sentinel, .data] true :=
  Program.laidByTextLater_by_one 550 8 65 (by kernel_rfl) (by kernel_rfl) (by kernel_rfl) (by kernel_rfl) (by kernel_rfl) (by kernel_rfl) (fun _ _ => by kernel_rfl)
theorem pin_laid_unicode_utf8_first : Tryd.pinned.checked.prog.pinnedFits "unicode/utf8.first" = true := by kernel_rfl
theorem noOwnUnsafe : Tryd.pinned.checked.prog.headLifts.contains "ownunsafe" = false := by kernel_rfl
theorem tie : Tryd.prog.laidByTextLater [("math/bits.deBruijn32tab", Rows.laid_math_bits_deBruijn32tab), ("math/bits.deBruijn64tab", Rows.laid_math_bits_deBruijn64tab), ("internal/strconv.uint64pow10", Rows.laid_internal_strconv_uint64pow10), ("concord/api.ErrShort", Rows.laid_concord_api_ErrShort), ("concord/api.ErrVarint", Rows.laid_concord_api_ErrVarint), ("concord/api.ErrLimit", Rows.laid_concord_api_ErrLimit), ("concord/api.ErrOrder", Rows.laid_concord_api_ErrOrder), ("concord/api.ErrTail", Rows.laid_concord_api_ErrTail), ("concord/api.ErrTag", Rows.laid_concord_api_ErrTag), ("concord/api.ErrSum", Rows.laid_concord_api_ErrSum), ("concord/api.ErrRange", Rows.laid_concord_api_ErrRange), ("concord/api.ErrSize", Rows.laid_concord_api_ErrSize), ("concord/api.ErrCorrupt", Rows.laid_concord_api_ErrCorrupt), ("concord/api.ErrSchema", Rows.laid_concord_api_ErrSchema), ("concord/api.ErrField", Rows.laid_concord_api_ErrField), ("concord/api.ErrValue", Rows.laid_concord_api_ErrValue), ("concord/api.ErrPattern", Rows.laid_concord_api_ErrPattern), ("concord/api.ErrStates", Rows.laid_concord_api_ErrStates), ("concord/api.ErrSyntax", Rows.laid_concord_api_ErrSyntax), ("concord/api.ErrDeep", Rows.laid_concord_api_ErrDeep), ("concord/api.ErrNode", Rows.laid_concord_api_ErrNode), ("concord/api.ErrTerms", Rows.laid_concord_api_ErrTerms), ("concord/api.ErrScore", Rows.laid_concord_api_ErrScore), ("concord/api.ErrCode", Rows.laid_concord_api_ErrCode), ("concord/api.ErrFuel", Rows.laid_concord_api_ErrFuel), ("concord/api.ErrDoc", Rows.laid_concord_api_ErrDoc), ("concord/api.ErrCommand", Rows.laid_concord_api_ErrCommand), ("concord/isa.table", Rows.laid_concord_isa_table)] [.data, .data, .data, .sentinel, .sentinel, .sentinel, .sentinel, .sentinel, .sentinel, .sentinel, .sentinel, .sentinel, .sentinel, .sentinel, .sentinel, .sentinel, .sentinel, .sentinel, .sentinel, .sentinel, .sentinel, .sentinel, .sentinel, .sentinel, .sentinel, .sentinel, .sentinel, .data] true :=
  Program.laidByTextLater.sub seatTie1 ["math/bits.deBruijn32tab", "math/bits.deBruijn64tab", "internal/strconv.uint64pow10", "concord/api.ErrShort", "concord/api.ErrVarint", "concord/api.ErrLimit", "concord/api.ErrOrder", "concord/api.ErrTail", "concord/api.ErrTag", "concord/api.ErrSum", "concord/api.ErrRange", "concord/api.ErrSize", "concord/api.ErrCorrupt", "concord/api.ErrSchema", "concord/api.ErrField", "concord/api.ErrValue", "concord/api.ErrPattern", "concord/api.ErrStates", "concord/api.ErrSyntax", "concord/api.ErrDeep", "concord/api.ErrNode", "concord/api.ErrTerms", "concord/api.ErrScore", "concord/api.ErrCode", "concord/api.ErrFuel", "concord/api.ErrDoc", "concord/api.ErrCommand", "concord/isa.table"] (by kernel_rfl) (by kernel_rfl)
theorem isaEncodes_row_tie : Rows.isaEncodesRow.laidByTextAt .later Tryd.pinned [.data, .data, .data, .sentinel, .sentinel, .sentinel, .sentinel, .sentinel, .sentinel, .sentinel, .sentinel, .sentinel, .sentinel, .sentinel, .sentinel, .sentinel, .sentinel, .sentinel, .sentinel, .sentinel, .sentinel, .sentinel, .sentinel, .sentinel, .sentinel, .sentinel, .sentinel, .data] true :=
  OpenClaim.laidByTextAt_later rfl rfl tie noOwnUnsafe
theorem isaDecodes_row_tie : Rows.isaDecodesRow.laidByTextAt .later Tryd.pinned [.data, .data, .data, .sentinel, .sentinel, .sentinel, .sentinel, .sentinel, .sentinel, .sentinel, .sentinel, .sentinel, .sentinel, .sentinel, .sentinel, .sentinel, .sentinel, .sentinel, .sentinel, .sentinel, .sentinel, .sentinel, .sentinel, .sentinel, .sentinel, .sentinel, .sentinel, .data] true :=
  OpenClaim.laidByTextAt_later rfl rfl tie noOwnUnsafe
theorem isaThere_row_tie : Rows.isaThereRow.laidByTextAt .later Tryd.pinned [.data, .data, .data, .sentinel, .sentinel, .sentinel, .sentinel, .sentinel, .sentinel, .sentinel, .sentinel, .sentinel, .sentinel, .sentinel, .sentinel, .sentinel, .sentinel, .sentinel, .sentinel, .sentinel, .sentinel, .sentinel, .sentinel, .sentinel, .sentinel, .sentinel, .sentinel, .data] true :=
  OpenClaim.laidByTextAt_later rfl rfl tie noOwnUnsafe
theorem isaTexts_row_tie : Rows.isaTextsRow.laidByTextAt .later Tryd.pinned [.data, .data, .data, .sentinel, .sentinel, .sentinel, .sentinel, .sentinel, .sentinel, .sentinel, .sentinel, .sentinel, .sentinel, .sentinel, .sentinel, .sentinel, .sentinel, .sentinel, .sentinel, .sentinel, .sentinel, .sentinel, .sentinel, .sentinel, .sentinel, .sentinel, .sentinel, .data] true :=
  OpenClaim.laidByTextAt_later rfl rfl tie noOwnUnsafe
theorem tie2 : Tryd.prog.laidByTextLater [("math/bits.deBruijn32tab", Rows.laid_math_bits_deBruijn32tab), ("math/bits.deBruijn64tab", Rows.laid_math_bits_deBruijn64tab), ("internal/strconv.uint64pow10", Rows.laid_internal_strconv_uint64pow10), ("concord/api.ErrShort", Rows.laid_concord_api_ErrShort), ("concord/api.ErrVarint", Rows.laid_concord_api_ErrVarint), ("concord/api.ErrCode", Rows.laid_concord_api_ErrCode), ("concord/isa.table", Rows.laid_concord_isa_table)] [.data, .data, .data, .sentinel, .sentinel, .sentinel, .data] true :=
  Program.laidByTextLater.sub seatTie1 ["math/bits.deBruijn32tab", "math/bits.deBruijn64tab", "internal/strconv.uint64pow10", "concord/api.ErrShort", "concord/api.ErrVarint", "concord/api.ErrCode", "concord/isa.table"] (by kernel_rfl) (by kernel_rfl)
theorem isaTwo_row_tie : Rows.isaTwoRow.laidByTextAt .later Tryd.pinned [.data, .data, .data, .sentinel, .sentinel, .sentinel, .data] true :=
  OpenClaim.laidByTextAt_later rfl rfl tie2 noOwnUnsafe
theorem isaNames_row_tie : Rows.isaNamesRow.laidByTextAt .later Tryd.pinned [.data, .data, .data, .sentinel, .sentinel, .sentinel, .data] true :=
  OpenClaim.laidByTextAt_later rfl rfl tie2 noOwnUnsafe
theorem fits3 : Tryd.pinned.checked.prog.listedFits [("math/bits.deBruijn32tab", Rows.laid_math_bits_deBruijn32tab), ("math/bits.deBruijn64tab", Rows.laid_math_bits_deBruijn64tab), ("internal/strconv.uint64pow10", Rows.laid_internal_strconv_uint64pow10), ("unicode/utf8.acceptRanges", Rows.laid_unicode_utf8_acceptRanges), ("concord/api.ErrShort", Rows.laid_concord_api_ErrShort), ("concord/api.ErrVarint", Rows.laid_concord_api_ErrVarint), ("concord/api.ErrLimit", Rows.laid_concord_api_ErrLimit), ("concord/api.ErrOrder", Rows.laid_concord_api_ErrOrder), ("concord/api.ErrTail", Rows.laid_concord_api_ErrTail), ("concord/api.ErrTag", Rows.laid_concord_api_ErrTag), ("concord/api.ErrSum", Rows.laid_concord_api_ErrSum), ("concord/api.ErrRange", Rows.laid_concord_api_ErrRange), ("concord/api.ErrSize", Rows.laid_concord_api_ErrSize), ("concord/api.ErrCorrupt", Rows.laid_concord_api_ErrCorrupt), ("concord/api.ErrSchema", Rows.laid_concord_api_ErrSchema), ("concord/api.ErrField", Rows.laid_concord_api_ErrField), ("concord/api.ErrValue", Rows.laid_concord_api_ErrValue), ("concord/api.ErrPattern", Rows.laid_concord_api_ErrPattern), ("concord/api.ErrStates", Rows.laid_concord_api_ErrStates), ("concord/api.ErrSyntax", Rows.laid_concord_api_ErrSyntax), ("concord/api.ErrDeep", Rows.laid_concord_api_ErrDeep), ("concord/api.ErrNode", Rows.laid_concord_api_ErrNode), ("concord/api.ErrTerms", Rows.laid_concord_api_ErrTerms), ("concord/api.ErrScore", Rows.laid_concord_api_ErrScore), ("concord/api.ErrCode", Rows.laid_concord_api_ErrCode), ("concord/api.ErrFuel", Rows.laid_concord_api_ErrFuel), ("concord/api.ErrDoc", Rows.laid_concord_api_ErrDoc), ("concord/api.ErrCommand", Rows.laid_concord_api_ErrCommand), ("strconv.ErrRange", Rows.laid_strconv_ErrRange), ("strconv.ErrSyntax", Rows.laid_strconv_ErrSyntax), ("concord/isa.table", Rows.laid_concord_isa_table), ("unicode/utf8.first", Rows.laid_unicode_utf8_first)] = true := by
  unfold Program.listedFits
  rw [noOwnUnsafe]
  kernel_rfl
theorem tie3 : Tryd.prog.laidByTextLater [("math/bits.deBruijn32tab", Rows.laid_math_bits_deBruijn32tab), ("math/bits.deBruijn64tab", Rows.laid_math_bits_deBruijn64tab), ("internal/strconv.uint64pow10", Rows.laid_internal_strconv_uint64pow10), ("unicode/utf8.acceptRanges", Rows.laid_unicode_utf8_acceptRanges), ("concord/api.ErrShort", Rows.laid_concord_api_ErrShort), ("concord/api.ErrVarint", Rows.laid_concord_api_ErrVarint), ("concord/api.ErrLimit", Rows.laid_concord_api_ErrLimit), ("concord/api.ErrOrder", Rows.laid_concord_api_ErrOrder), ("concord/api.ErrTail", Rows.laid_concord_api_ErrTail), ("concord/api.ErrTag", Rows.laid_concord_api_ErrTag), ("concord/api.ErrSum", Rows.laid_concord_api_ErrSum), ("concord/api.ErrRange", Rows.laid_concord_api_ErrRange), ("concord/api.ErrSize", Rows.laid_concord_api_ErrSize), ("concord/api.ErrCorrupt", Rows.laid_concord_api_ErrCorrupt), ("concord/api.ErrSchema", Rows.laid_concord_api_ErrSchema), ("concord/api.ErrField", Rows.laid_concord_api_ErrField), ("concord/api.ErrValue", Rows.laid_concord_api_ErrValue), ("concord/api.ErrPattern", Rows.laid_concord_api_ErrPattern), ("concord/api.ErrStates", Rows.laid_concord_api_ErrStates), ("concord/api.ErrSyntax", Rows.laid_concord_api_ErrSyntax), ("concord/api.ErrDeep", Rows.laid_concord_api_ErrDeep), ("concord/api.ErrNode", Rows.laid_concord_api_ErrNode), ("concord/api.ErrTerms", Rows.laid_concord_api_ErrTerms), ("concord/api.ErrScore", Rows.laid_concord_api_ErrScore), ("concord/api.ErrCode", Rows.laid_concord_api_ErrCode), ("concord/api.ErrFuel", Rows.laid_concord_api_ErrFuel), ("concord/api.ErrDoc", Rows.laid_concord_api_ErrDoc), ("concord/api.ErrCommand", Rows.laid_concord_api_ErrCommand), ("strconv.ErrRange", Rows.laid_strconv_ErrRange), ("strconv.ErrSyntax", Rows.laid_strconv_ErrSyntax), ("concord/isa.table", Rows.laid_concord_isa_table)] [.data, .data, .data, .data, .sentinel, .sentinel, .sentinel, .sentinel, .sentinel, .sentinel, .sentinel, .sentinel, .sentinel, .sentinel, .sentinel, .sentinel, .sentinel, .sentinel, .sentinel, .sentinel, .sentinel, .sentinel, .sentinel, .sentinel, .sentinel, .sentinel, .sentinel, .sentinel, .sentinel, .sentinel, .data] true :=
  Program.laidByTextLater.sub seatTie2 ["math/bits.deBruijn32tab", "math/bits.deBruijn64tab", "internal/strconv.uint64pow10", "unicode/utf8.acceptRanges", "concord/api.ErrShort", "concord/api.ErrVarint", "concord/api.ErrLimit", "concord/api.ErrOrder", "concord/api.ErrTail", "concord/api.ErrTag", "concord/api.ErrSum", "concord/api.ErrRange", "concord/api.ErrSize", "concord/api.ErrCorrupt", "concord/api.ErrSchema", "concord/api.ErrField", "concord/api.ErrValue", "concord/api.ErrPattern", "concord/api.ErrStates", "concord/api.ErrSyntax", "concord/api.ErrDeep", "concord/api.ErrNode", "concord/api.ErrTerms", "concord/api.ErrScore", "concord/api.ErrCode", "concord/api.ErrFuel", "concord/api.ErrDoc", "concord/api.ErrCommand", "strconv.ErrRange", "strconv.ErrSyntax", "concord/isa.table"] (by kernel_rfl) (by kernel_rfl)
theorem isaBack_row_tie : Rows.isaBackRow.laidByTextAt .later Tryd.pinned [.data, .data, .data, .data, .sentinel, .sentinel, .sentinel, .sentinel, .sentinel, .sentinel, .sentinel, .sentinel, .sentinel, .sentinel, .sentinel, .sentinel, .sentinel, .sentinel, .sentinel, .sentinel, .sentinel, .sentinel, .sentinel, .sentinel, .sentinel, .sentinel, .sentinel, .sentinel, .sentinel, .sentinel, .data, .pinned] true :=
  OpenClaim.laidByTextAt_pinned rfl rfl tie3 rfl rfl rfl rfl (fun y hy _e => by
    simp only [Rows.isaBackRow, List.zip_cons_cons, List.zip_nil_right, List.mem_cons, List.mem_nil_iff, or_false] at hy
    rcases hy with rfl | rfl | rfl | rfl | rfl | rfl | rfl | rfl | rfl | rfl | rfl | rfl | rfl | rfl | rfl | rfl | rfl | rfl | rfl | rfl | rfl | rfl | rfl | rfl | rfl | rfl | rfl | rfl | rfl | rfl | rfl | rfl
    · cases _e
    · cases _e
    · cases _e
    · cases _e
    · cases _e
    · cases _e
    · cases _e
    · cases _e
    · cases _e
    · cases _e
    · cases _e
    · cases _e
    · cases _e
    · cases _e
    · cases _e
    · cases _e
    · cases _e
    · cases _e
    · cases _e
    · cases _e
    · cases _e
    · cases _e
    · cases _e
    · cases _e
    · cases _e
    · cases _e
    · cases _e
    · cases _e
    · cases _e
    · cases _e
    · cases _e
    · exact ⟨pin_laid_unicode_utf8_first, by kernel_rfl⟩) fits3
theorem isaCuts_row_tie : Rows.isaCutsRow.laidByTextAt .later Tryd.pinned [.data, .data, .data, .data, .sentinel, .sentinel, .sentinel, .sentinel, .sentinel, .sentinel, .sentinel, .sentinel, .sentinel, .sentinel, .sentinel, .sentinel, .sentinel, .sentinel, .sentinel, .sentinel, .sentinel, .sentinel, .sentinel, .sentinel, .sentinel, .sentinel, .sentinel, .sentinel, .sentinel, .sentinel, .data, .pinned] true :=
  OpenClaim.laidByTextAt_pinned rfl rfl tie3 rfl rfl rfl rfl (fun y hy _e => by
    simp only [Rows.isaCutsRow, List.zip_cons_cons, List.zip_nil_right, List.mem_cons, List.mem_nil_iff, or_false] at hy
    rcases hy with rfl | rfl | rfl | rfl | rfl | rfl | rfl | rfl | rfl | rfl | rfl | rfl | rfl | rfl | rfl | rfl | rfl | rfl | rfl | rfl | rfl | rfl | rfl | rfl | rfl | rfl | rfl | rfl | rfl | rfl | rfl | rfl
    · cases _e
    · cases _e
    · cases _e
    · cases _e
    · cases _e
    · cases _e
    · cases _e
    · cases _e
    · cases _e
    · cases _e
    · cases _e
    · cases _e
    · cases _e
    · cases _e
    · cases _e
    · cases _e
    · cases _e
    · cases _e
    · cases _e
    · cases _e
    · cases _e
    · cases _e
    · cases _e
    · cases _e
    · cases _e
    · cases _e
    · cases _e
    · cases _e
    · cases _e
    · cases _e
    · cases _e
    · exact ⟨pin_laid_unicode_utf8_first, by kernel_rfl⟩) fits3
theorem isaEncodesUpto_row_tie : Rows.isaEncodesUptoRow.laidByTextAt .later Tryd.pinned [.data, .data, .data, .sentinel, .sentinel, .sentinel, .sentinel, .sentinel, .sentinel, .sentinel, .sentinel, .sentinel, .sentinel, .sentinel, .sentinel, .sentinel, .sentinel, .sentinel, .sentinel, .sentinel, .sentinel, .sentinel, .sentinel, .sentinel, .sentinel, .sentinel, .sentinel, .data] true :=
  OpenClaim.laidByTextAt_later rfl rfl tie noOwnUnsafe
theorem isaDecodesUpto_row_tie : Rows.isaDecodesUptoRow.laidByTextAt .later Tryd.pinned [.data, .data, .data, .sentinel, .sentinel, .sentinel, .sentinel, .sentinel, .sentinel, .sentinel, .sentinel, .sentinel, .sentinel, .sentinel, .sentinel, .sentinel, .sentinel, .sentinel, .sentinel, .sentinel, .sentinel, .sentinel, .sentinel, .sentinel, .sentinel, .sentinel, .sentinel, .data] true :=
  OpenClaim.laidByTextAt_later rfl rfl tie noOwnUnsafe
theorem isaThereUpto_row_tie : Rows.isaThereUptoRow.laidByTextAt .later Tryd.pinned [.data, .data, .data, .sentinel, .sentinel, .sentinel, .sentinel, .sentinel, .sentinel, .sentinel, .sentinel, .sentinel, .sentinel, .sentinel, .sentinel, .sentinel, .sentinel, .sentinel, .sentinel, .sentinel, .sentinel, .sentinel, .sentinel, .sentinel, .sentinel, .sentinel, .sentinel, .data] true :=
  OpenClaim.laidByTextAt_later rfl rfl tie noOwnUnsafe
theorem isaTextsUpto_row_tie : Rows.isaTextsUptoRow.laidByTextAt .later Tryd.pinned [.data, .data, .data, .sentinel, .sentinel, .sentinel, .sentinel, .sentinel, .sentinel, .sentinel, .sentinel, .sentinel, .sentinel, .sentinel, .sentinel, .sentinel, .sentinel, .sentinel, .sentinel, .sentinel, .sentinel, .sentinel, .sentinel, .sentinel, .sentinel, .sentinel, .sentinel, .data] true :=
  OpenClaim.laidByTextAt_later rfl rfl tie noOwnUnsafe
theorem isaTwoUpto_row_tie : Rows.isaTwoUptoRow.laidByTextAt .later Tryd.pinned [.data, .data, .data, .sentinel, .sentinel, .sentinel, .data] true :=
  OpenClaim.laidByTextAt_later rfl rfl tie2 noOwnUnsafe
theorem isaNamesUpto_row_tie : Rows.isaNamesUptoRow.laidByTextAt .later Tryd.pinned [.data, .data, .data, .sentinel, .sentinel, .sentinel, .data] true :=
  OpenClaim.laidByTextAt_later rfl rfl tie2 noOwnUnsafe
theorem isaBackUpto_row_tie : Rows.isaBackUptoRow.laidByTextAt .later Tryd.pinned [.data, .data, .data, .data, .sentinel, .sentinel, .sentinel, .sentinel, .sentinel, .sentinel, .sentinel, .sentinel, .sentinel, .sentinel, .sentinel, .sentinel, .sentinel, .sentinel, .sentinel, .sentinel, .sentinel, .sentinel, .sentinel, .sentinel, .sentinel, .sentinel, .sentinel, .sentinel, .sentinel, .sentinel, .data, .pinned] true :=
  OpenClaim.laidByTextAt_pinned rfl rfl tie3 rfl rfl rfl rfl (fun y hy _e => by
    simp only [Rows.isaBackUptoRow, List.zip_cons_cons, List.zip_nil_right, List.mem_cons, List.mem_nil_iff, or_false] at hy
    rcases hy with rfl | rfl | rfl | rfl | rfl | rfl | rfl | rfl | rfl | rfl | rfl | rfl | rfl | rfl | rfl | rfl | rfl | rfl | rfl | rfl | rfl | rfl | rfl | rfl | rfl | rfl | rfl | rfl | rfl | rfl | rfl | rfl
    · cases _e
    · cases _e
    · cases _e
    · cases _e
    · cases _e
    · cases _e
    · cases _e
    · cases _e
    · cases _e
    · cases _e
    · cases _e
    · cases _e
    · cases _e
    · cases _e
    · cases _e
    · cases _e
    · cases _e
    · cases _e
    · cases _e
    · cases _e
    · cases _e
    · cases _e
    · cases _e
    · cases _e
    · cases _e
    · cases _e
    · cases _e
    · cases _e
    · cases _e
    · cases _e
    · cases _e
    · exact ⟨pin_laid_unicode_utf8_first, by kernel_rfl⟩) fits3
theorem isaCutsUpto_row_tie : Rows.isaCutsUptoRow.laidByTextAt .later Tryd.pinned [.data, .data, .data, .data, .sentinel, .sentinel, .sentinel, .sentinel, .sentinel, .sentinel, .sentinel, .sentinel, .sentinel, .sentinel, .sentinel, .sentinel, .sentinel, .sentinel, .sentinel, .sentinel, .sentinel, .sentinel, .sentinel, .sentinel, .sentinel, .sentinel, .sentinel, .sentinel, .sentinel, .sentinel, .data, .pinned] true :=
  OpenClaim.laidByTextAt_pinned rfl rfl tie3 rfl rfl rfl rfl (fun y hy _e => by
    simp only [Rows.isaCutsUptoRow, List.zip_cons_cons, List.zip_nil_right, List.mem_cons, List.mem_nil_iff, or_false] at hy
    rcases hy with rfl | rfl | rfl | rfl | rfl | rfl | rfl | rfl | rfl | rfl | rfl | rfl | rfl | rfl | rfl | rfl | rfl | rfl | rfl | rfl | rfl | rfl | rfl | rfl | rfl | rfl | rfl | rfl | rfl | rfl | rfl | rfl
    · cases _e
    · cases _e
    · cases _e
    · cases _e
    · cases _e
    · cases _e
    · cases _e
    · cases _e
    · cases _e
    · cases _e
    · cases _e
    · cases _e
    · cases _e
    · cases _e
    · cases _e
    · cases _e
    · cases _e
    · cases _e
    · cases _e
    · cases _e
    · cases _e
    · cases _e
    · cases _e
    · cases _e
    · cases _e
    · cases _e
    · cases _e
    · cases _e
    · cases _e
    · cases _e
    · cases _e
    · exact ⟨pin_laid_unicode_utf8_first, by kernel_rfl⟩) fits3
end Go.Proofs.YtmdpfikalekmlaaDoor
