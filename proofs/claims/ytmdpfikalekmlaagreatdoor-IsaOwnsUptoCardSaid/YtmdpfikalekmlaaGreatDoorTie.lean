/-
  DERIVED. GIVEN WITH THE SEED: THE PROGRAM's TIES (one call each: nine closed facts by the kernel) AND EACH ROW's TIE, after the 31st guide's Derived/Test/Toyas{Tie, Card}.lean. No idea stands in it: it is a product of the set-up. Laid BY PROGRAM, IN A SANDBOX (cutbox-door.mjs). By AI agents, Wed Nov 11 2026. No macro, syntax, notation, axiom, sorry.
-/
import Derived.Test.YtmdpfikalekmlaaGreatDoorRows
import Derived.LaidByTextLater
import Derived.SevenTiedAt
import Derived.LaidSub
import Derived.LaidOnce
namespace Go.Proofs.YtmdpfikalekmlaaGreatDoor
open Go
set_option maxRecDepth 100000
theorem seatTie1 : Tryz.prog.laidByTextLater [("math/bits.deBruijn32tab", Rows.laid_math_bits_deBruijn32tab), ("math/bits.deBruijn64tab", Rows.laid_math_bits_deBruijn64tab), ("internal/strconv.uint64pow10", Rows.laid_internal_strconv_uint64pow10), ("unicode/utf8.acceptRanges", Rows.laid_unicode_utf8_acceptRanges), ("concord/api.ErrShort", Rows.laid_concord_api_ErrShort), ("concord/api.ErrVarint", Rows.laid_concord_api_ErrVarint), ("concord/api.ErrLimit", Rows.laid_concord_api_ErrLimit), ("concord/api.ErrOrder", Rows.laid_concord_api_ErrOrder), ("concord/api.ErrTail", Rows.laid_concord_api_ErrTail), ("concord/api.ErrTag", Rows.laid_concord_api_ErrTag), ("concord/api.ErrSum", Rows.laid_concord_api_ErrSum), ("concord/api.ErrRange", Rows.laid_concord_api_ErrRange), ("concord/api.ErrSize", Rows.laid_concord_api_ErrSize), ("concord/api.ErrCorrupt", Rows.laid_concord_api_ErrCorrupt), ("concord/api.ErrSchema", Rows.laid_concord_api_ErrSchema), ("concord/api.ErrField", Rows.laid_concord_api_ErrField), ("concord/api.ErrValue", Rows.laid_concord_api_ErrValue), ("concord/api.ErrPattern", Rows.laid_concord_api_ErrPattern), ("concord/api.ErrStates", Rows.laid_concord_api_ErrStates), ("concord/api.ErrSyntax", Rows.laid_concord_api_ErrSyntax), ("concord/api.ErrDeep", Rows.laid_concord_api_ErrDeep), ("concord/api.ErrNode", Rows.laid_concord_api_ErrNode), ("concord/api.ErrTerms", Rows.laid_concord_api_ErrTerms), ("concord/api.ErrScore", Rows.laid_concord_api_ErrScore), ("concord/api.ErrCode", Rows.laid_concord_api_ErrCode), ("concord/api.ErrFuel", Rows.laid_concord_api_ErrFuel), ("concord/api.ErrDoc", Rows.laid_concord_api_ErrDoc), ("concord/api.ErrCommand", Rows.laid_concord_api_ErrCommand), ("strconv.ErrRange", Rows.laid_strconv_ErrRange), ("strconv.ErrSyntax", Rows.laid_strconv_ErrSyntax), ("concord/isa.table", Rows.laid_concord_isa_table)] [.data, .data, .data, .data, .sentinel, .sentinel, .sentinel, .sentinel, .sentinel, .sentinel, .sentinel, .sentinel, .sentinel, .sentinel, .sentinel, .sentinel, .sentinel, .sentinel, .sentinel, .sentinel, .sentinel, .sentinel, .sentinel, .sentinel, .sentinel, .sentinel, .sentinel, .sentinel, .sentinel, .sentinel, .data] true :=
  Program.laidByTextLater_by_one 550 8 65 (by kernel_rfl) (by kernel_rfl) (by kernel_rfl) (by kernel_rfl) (by kernel_rfl) (by kernel_rfl) (fun _ _ => by kernel_rfl)
theorem pin_laid_unicode_utf8_first : Tryz.pinned.checked.prog.pinnedFits "unicode/utf8.first" = true := by kernel_rfl
theorem noOwnUnsafe : Tryz.pinned.checked.prog.headLifts.contains "ownunsafe" = false := by kernel_rfl
theorem fits1 : Tryz.pinned.checked.prog.listedFits [("math/bits.deBruijn32tab", Rows.laid_math_bits_deBruijn32tab), ("math/bits.deBruijn64tab", Rows.laid_math_bits_deBruijn64tab), ("internal/strconv.uint64pow10", Rows.laid_internal_strconv_uint64pow10), ("unicode/utf8.acceptRanges", Rows.laid_unicode_utf8_acceptRanges), ("concord/api.ErrShort", Rows.laid_concord_api_ErrShort), ("concord/api.ErrVarint", Rows.laid_concord_api_ErrVarint), ("concord/api.ErrLimit", Rows.laid_concord_api_ErrLimit), ("concord/api.ErrOrder", Rows.laid_concord_api_ErrOrder), ("concord/api.ErrTail", Rows.laid_concord_api_ErrTail), ("concord/api.ErrTag", Rows.laid_concord_api_ErrTag), ("concord/api.ErrSum", Rows.laid_concord_api_ErrSum), ("concord/api.ErrRange", Rows.laid_concord_api_ErrRange), ("concord/api.ErrSize", Rows.laid_concord_api_ErrSize), ("concord/api.ErrCorrupt", Rows.laid_concord_api_ErrCorrupt), ("concord/api.ErrSchema", Rows.laid_concord_api_ErrSchema), ("concord/api.ErrField", Rows.laid_concord_api_ErrField), ("concord/api.ErrValue", Rows.laid_concord_api_ErrValue), ("concord/api.ErrPattern", Rows.laid_concord_api_ErrPattern), ("concord/api.ErrStates", Rows.laid_concord_api_ErrStates), ("concord/api.ErrSyntax", Rows.laid_concord_api_ErrSyntax), ("concord/api.ErrDeep", Rows.laid_concord_api_ErrDeep), ("concord/api.ErrNode", Rows.laid_concord_api_ErrNode), ("concord/api.ErrTerms", Rows.laid_concord_api_ErrTerms), ("concord/api.ErrScore", Rows.laid_concord_api_ErrScore), ("concord/api.ErrCode", Rows.laid_concord_api_ErrCode), ("concord/api.ErrFuel", Rows.laid_concord_api_ErrFuel), ("concord/api.ErrDoc", Rows.laid_concord_api_ErrDoc), ("concord/api.ErrCommand", Rows.laid_concord_api_ErrCommand), ("strconv.ErrRange", Rows.laid_strconv_ErrRange), ("strconv.ErrSyntax", Rows.laid_strconv_ErrSyntax), ("concord/isa.table", Rows.laid_concord_isa_table), ("unicode/utf8.first", Rows.laid_unicode_utf8_first)] = true := by
  unfold Program.listedFits
  rw [noOwnUnsafe]
  kernel_rfl
theorem tie : Tryz.prog.laidByTextLater [("math/bits.deBruijn32tab", Rows.laid_math_bits_deBruijn32tab), ("math/bits.deBruijn64tab", Rows.laid_math_bits_deBruijn64tab), ("internal/strconv.uint64pow10", Rows.laid_internal_strconv_uint64pow10), ("unicode/utf8.acceptRanges", Rows.laid_unicode_utf8_acceptRanges), ("concord/api.ErrShort", Rows.laid_concord_api_ErrShort), ("concord/api.ErrVarint", Rows.laid_concord_api_ErrVarint), ("concord/api.ErrLimit", Rows.laid_concord_api_ErrLimit), ("concord/api.ErrOrder", Rows.laid_concord_api_ErrOrder), ("concord/api.ErrTail", Rows.laid_concord_api_ErrTail), ("concord/api.ErrTag", Rows.laid_concord_api_ErrTag), ("concord/api.ErrSum", Rows.laid_concord_api_ErrSum), ("concord/api.ErrRange", Rows.laid_concord_api_ErrRange), ("concord/api.ErrSize", Rows.laid_concord_api_ErrSize), ("concord/api.ErrCorrupt", Rows.laid_concord_api_ErrCorrupt), ("concord/api.ErrSchema", Rows.laid_concord_api_ErrSchema), ("concord/api.ErrField", Rows.laid_concord_api_ErrField), ("concord/api.ErrValue", Rows.laid_concord_api_ErrValue), ("concord/api.ErrPattern", Rows.laid_concord_api_ErrPattern), ("concord/api.ErrStates", Rows.laid_concord_api_ErrStates), ("concord/api.ErrSyntax", Rows.laid_concord_api_ErrSyntax), ("concord/api.ErrDeep", Rows.laid_concord_api_ErrDeep), ("concord/api.ErrNode", Rows.laid_concord_api_ErrNode), ("concord/api.ErrTerms", Rows.laid_concord_api_ErrTerms), ("concord/api.ErrScore", Rows.laid_concord_api_ErrScore), ("concord/api.ErrCode", Rows.laid_concord_api_ErrCode), ("concord/api.ErrFuel", Rows.laid_concord_api_ErrFuel), ("concord/api.ErrDoc", Rows.laid_concord_api_ErrDoc), ("concord/api.ErrCommand", Rows.laid_concord_api_ErrCommand), ("strconv.ErrRange", Rows.laid_strconv_ErrRange), ("strconv.ErrSyntax", Rows.laid_strconv_ErrSyntax), ("concord/isa.table", Rows.laid_concord_isa_table)] [.data, .data, .data, .data, .sentinel, .sentinel, .sentinel, .sentinel, .sentinel, .sentinel, .sentinel, .sentinel, .sentinel, .sentinel, .sentinel, .sentinel, .sentinel, .sentinel, .sentinel, .sentinel, .sentinel, .sentinel, .sentinel, .sentinel, .sentinel, .sentinel, .sentinel, .sentinel, .sentinel, .sentinel, .data] true :=
  Program.laidByTextLater.sub seatTie1 ["math/bits.deBruijn32tab", "math/bits.deBruijn64tab", "internal/strconv.uint64pow10", "unicode/utf8.acceptRanges", "concord/api.ErrShort", "concord/api.ErrVarint", "concord/api.ErrLimit", "concord/api.ErrOrder", "concord/api.ErrTail", "concord/api.ErrTag", "concord/api.ErrSum", "concord/api.ErrRange", "concord/api.ErrSize", "concord/api.ErrCorrupt", "concord/api.ErrSchema", "concord/api.ErrField", "concord/api.ErrValue", "concord/api.ErrPattern", "concord/api.ErrStates", "concord/api.ErrSyntax", "concord/api.ErrDeep", "concord/api.ErrNode", "concord/api.ErrTerms", "concord/api.ErrScore", "concord/api.ErrCode", "concord/api.ErrFuel", "concord/api.ErrDoc", "concord/api.ErrCommand", "strconv.ErrRange", "strconv.ErrSyntax", "concord/isa.table"] (by kernel_rfl) (by kernel_rfl)
theorem isaReads_row_tie : Rows.isaReadsRow.laidByTextAt .later Tryz.pinned [.data, .data, .data, .data, .sentinel, .sentinel, .sentinel, .sentinel, .sentinel, .sentinel, .sentinel, .sentinel, .sentinel, .sentinel, .sentinel, .sentinel, .sentinel, .sentinel, .sentinel, .sentinel, .sentinel, .sentinel, .sentinel, .sentinel, .sentinel, .sentinel, .sentinel, .sentinel, .sentinel, .sentinel, .data, .pinned] true :=
  OpenClaim.laidByTextAt_pinned rfl rfl tie rfl rfl rfl rfl (fun y hy _e => by
    simp only [Rows.isaReadsRow, List.zip_cons_cons, List.zip_nil_right, List.mem_cons, List.mem_nil_iff, or_false] at hy
    rcases hy with rfl | rfl | rfl | rfl | rfl | rfl | rfl | rfl | rfl | rfl | rfl | rfl | rfl | rfl | rfl | rfl | rfl | rfl | rfl | rfl | rfl | rfl | rfl | rfl | rfl | rfl | rfl | rfl | rfl | rfl | rfl | rfl
    · cases _e
    · cases _e
    · cases _e
    · cases _e
    · cases _e
    · cases _e
    · cases _e
    · cases _e
    · cases _e
    · cases _e
    · cases _e
    · cases _e
    · cases _e
    · cases _e
    · cases _e
    · cases _e
    · cases _e
    · cases _e
    · cases _e
    · cases _e
    · cases _e
    · cases _e
    · cases _e
    · cases _e
    · cases _e
    · cases _e
    · cases _e
    · cases _e
    · cases _e
    · cases _e
    · cases _e
    · exact ⟨pin_laid_unicode_utf8_first, by kernel_rfl⟩) fits1
theorem isaOwns_row_tie : Rows.isaOwnsRow.laidByTextAt .later Tryz.pinned [.data, .data, .data, .data, .sentinel, .sentinel, .sentinel, .sentinel, .sentinel, .sentinel, .sentinel, .sentinel, .sentinel, .sentinel, .sentinel, .sentinel, .sentinel, .sentinel, .sentinel, .sentinel, .sentinel, .sentinel, .sentinel, .sentinel, .sentinel, .sentinel, .sentinel, .sentinel, .sentinel, .sentinel, .data, .pinned] true :=
  OpenClaim.laidByTextAt_pinned rfl rfl tie rfl rfl rfl rfl (fun y hy _e => by
    simp only [Rows.isaOwnsRow, List.zip_cons_cons, List.zip_nil_right, List.mem_cons, List.mem_nil_iff, or_false] at hy
    rcases hy with rfl | rfl | rfl | rfl | rfl | rfl | rfl | rfl | rfl | rfl | rfl | rfl | rfl | rfl | rfl | rfl | rfl | rfl | rfl | rfl | rfl | rfl | rfl | rfl | rfl | rfl | rfl | rfl | rfl | rfl | rfl | rfl
    · cases _e
    · cases _e
    · cases _e
    · cases _e
    · cases _e
    · cases _e
    · cases _e
    · cases _e
    · cases _e
    · cases _e
    · cases _e
    · cases _e
    · cases _e
    · cases _e
    · cases _e
    · cases _e
    · cases _e
    · cases _e
    · cases _e
    · cases _e
    · cases _e
    · cases _e
    · cases _e
    · cases _e
    · cases _e
    · cases _e
    · cases _e
    · cases _e
    · cases _e
    · cases _e
    · cases _e
    · exact ⟨pin_laid_unicode_utf8_first, by kernel_rfl⟩) fits1
theorem isaReadsUpto_row_tie : Rows.isaReadsUptoRow.laidByTextAt .later Tryz.pinned [.data, .data, .data, .data, .sentinel, .sentinel, .sentinel, .sentinel, .sentinel, .sentinel, .sentinel, .sentinel, .sentinel, .sentinel, .sentinel, .sentinel, .sentinel, .sentinel, .sentinel, .sentinel, .sentinel, .sentinel, .sentinel, .sentinel, .sentinel, .sentinel, .sentinel, .sentinel, .sentinel, .sentinel, .data, .pinned] true :=
  OpenClaim.laidByTextAt_pinned rfl rfl tie rfl rfl rfl rfl (fun y hy _e => by
    simp only [Rows.isaReadsUptoRow, List.zip_cons_cons, List.zip_nil_right, List.mem_cons, List.mem_nil_iff, or_false] at hy
    rcases hy with rfl | rfl | rfl | rfl | rfl | rfl | rfl | rfl | rfl | rfl | rfl | rfl | rfl | rfl | rfl | rfl | rfl | rfl | rfl | rfl | rfl | rfl | rfl | rfl | rfl | rfl | rfl | rfl | rfl | rfl | rfl | rfl
    · cases _e
    · cases _e
    · cases _e
    · cases _e
    · cases _e
    · cases _e
    · cases _e
    · cases _e
    · cases _e
    · cases _e
    · cases _e
    · cases _e
    · cases _e
    · cases _e
    · cases _e
    · cases _e
    · cases _e
    · cases _e
    · cases _e
    · cases _e
    · cases _e
    · cases _e
    · cases _e
    · cases _e
    · cases _e
    · cases _e
    · cases _e
    · cases _e
    · cases _e
    · cases _e
    · cases _e
    · exact ⟨pin_laid_unicode_utf8_first, by kernel_rfl⟩) fits1
theorem isaOwnsUpto_row_tie : Rows.isaOwnsUptoRow.laidByTextAt .later Tryz.pinned [.data, .data, .data, .data, .sentinel, .sentinel, .sentinel, .sentinel, .sentinel, .sentinel, .sentinel, .sentinel, .sentinel, .sentinel, .sentinel, .sentinel, .sentinel, .sentinel, .sentinel, .sentinel, .sentinel, .sentinel, .sentinel, .sentinel, .sentinel, .sentinel, .sentinel, .sentinel, .sentinel, .sentinel, .data, .pinned] true :=
  OpenClaim.laidByTextAt_pinned rfl rfl tie rfl rfl rfl rfl (fun y hy _e => by
    simp only [Rows.isaOwnsUptoRow, List.zip_cons_cons, List.zip_nil_right, List.mem_cons, List.mem_nil_iff, or_false] at hy
    rcases hy with rfl | rfl | rfl | rfl | rfl | rfl | rfl | rfl | rfl | rfl | rfl | rfl | rfl | rfl | rfl | rfl | rfl | rfl | rfl | rfl | rfl | rfl | rfl | rfl | rfl | rfl | rfl | rfl | rfl | rfl | rfl | rfl
    · cases _e
    · cases _e
    · cases _e
    · cases _e
    · cases _e
    · cases _e
    · cases _e
    · cases _e
    · cases _e
    · cases _e
    · cases _e
    · cases _e
    · cases _e
    · cases _e
    · cases _e
    · cases _e
    · cases _e
    · cases _e
    · cases _e
    · cases _e
    · cases _e
    · cases _e
    · cases _e
    · cases _e
    · cases _e
    · cases _e
    · cases _e
    · cases _e
    · cases _e
    · cases _e
    · cases _e
    · exact ⟨pin_laid_unicode_utf8_first, by kernel_rfl⟩) fits1
end Go.Proofs.YtmdpfikalekmlaaGreatDoor
