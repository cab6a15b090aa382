/-
  NARROWER THAN 'FOR EVERY INPUT', by the rows' own cells (each row's printed sentence says how): SyntaxChecks: laid · SyntaxParses: laid · SyntaxAgree: laid · SyntaxOneWay: laid · SyntaxBrackets: laid · SyntaxBlanks: laid · SyntaxJoins: laid · SyntaxLeaves: laid · SyntaxEnds: laid · SyntaxFollows: laid · SyntaxWays: laid.
  DERIVED. THE GIVEN ROWS OF THIS SEAT. 11 by the template 'for every input the law returns true; each argument reads behind the call as it read before'; 0 by the template 'total and deterministic' (their statements: YtcomdkejpaoneaaDoorTotals.lean).
  GIVEN WITH THE SEED: the statements are not yours to turn. If you find one false, say at which input.
  Laid BY PROGRAM, IN A SANDBOX (cutbox-rows.mjs): the forced cells as the released guide's own fill.sh prints them over the translation fbd7375c6f417f8f… (all of the seat's roots in one cut). By AI agents, Wed Nov 11 2026. No macro, syntax, notation, axiom, sorry.
-/
import Derived.Test.YtcomdkejpaoneaaDoorChecked
import GoSem.Claim
import GoSem.ClaimJoined
import GoSem.ClaimMapViews
import Derived.JoinedTies
import Derived.KernelRfl
namespace Go.Proofs.YtcomdkejpaoneaaDoor
/- THE CELL 'sum', in the pinned program and in every row, IS THE sha256 OF THE DUMP (.gsa) THAT YtcomdkejpaoneaaDoorProg.lean LOADS. Nothing in Lean hashes anything: it is a label: what it is worth is what the hold of that sum in a sandbox is worth. -/
noncomputable def Tryd.pinned : Pinned := { name := "ytcomdkejpaoneaadoor", sum := "fbd7375c6f417f8f94ef3bb747534cabdd4e1951332a7ee2b955783ef2d64fb5", checked := Tryd.checked }
namespace Rows
def none {H : Type} : Left H := { results := [], args := [] }

/- WHAT THE LISTED PACKAGE-LEVEL VARIABLES READ AS WHEN THE CALL BEGINS. Each datum BY PROGRAM (the guide's laid-datum.mjs) off the statement by which the dump's own 'gosem.cut.vars' lays the variable. In a bare row this is a premise. The card (YtcomdkejpaoneaaDoorCards.lean) ties it to the program's text. -/
def laid_concord_api_ErrShort {H : Type} : DataW H := .iface "*errors.errorString" (.ptr (.agg [.lit (.string [99, 111, 110, 99, 111, 114, 100, 58, 32, 116, 111, 111, 32, 115, 104, 111, 114, 116])]))
def laid_concord_api_ErrVarint {H : Type} : DataW H := .iface "*errors.errorString" (.ptr (.agg [.lit (.string [99, 111, 110, 99, 111, 114, 100, 58, 32, 118, 97, 114, 105, 110, 116])]))
def laid_concord_api_ErrLimit {H : Type} : DataW H := .iface "*errors.errorString" (.ptr (.agg [.lit (.string [99, 111, 110, 99, 111, 114, 100, 58, 32, 108, 105, 109, 105, 116])]))
def laid_concord_api_ErrOrder {H : Type} : DataW H := .iface "*errors.errorString" (.ptr (.agg [.lit (.string [99, 111, 110, 99, 111, 114, 100, 58, 32, 111, 114, 100, 101, 114])]))
def laid_concord_api_ErrTail {H : Type} : DataW H := .iface "*errors.errorString" (.ptr (.agg [.lit (.string [99, 111, 110, 99, 111, 114, 100, 58, 32, 116, 97, 105, 108])]))
def laid_concord_api_ErrTag {H : Type} : DataW H := .iface "*errors.errorString" (.ptr (.agg [.lit (.string [99, 111, 110, 99, 111, 114, 100, 58, 32, 116, 97, 103])]))
def laid_concord_api_ErrSum {H : Type} : DataW H := .iface "*errors.errorString" (.ptr (.agg [.lit (.string [99, 111, 110, 99, 111, 114, 100, 58, 32, 115, 117, 109])]))
def laid_concord_api_ErrRange {H : Type} : DataW H := .iface "*errors.errorString" (.ptr (.agg [.lit (.string [99, 111, 110, 99, 111, 114, 100, 58, 32, 114, 97, 110, 103, 101])]))
def laid_concord_api_ErrSize {H : Type} : DataW H := .iface "*errors.errorString" (.ptr (.agg [.lit (.string [99, 111, 110, 99, 111, 114, 100, 58, 32, 115, 105, 122, 101])]))
def laid_concord_api_ErrCorrupt {H : Type} : DataW H := .iface "*errors.errorString" (.ptr (.agg [.lit (.string [99, 111, 110, 99, 111, 114, 100, 58, 32, 99, 111, 114, 114, 117, 112, 116])]))
def laid_concord_api_ErrSchema {H : Type} : DataW H := .iface "*errors.errorString" (.ptr (.agg [.lit (.string [99, 111, 110, 99, 111, 114, 100, 58, 32, 115, 99, 104, 101, 109, 97])]))
def laid_concord_api_ErrField {H : Type} : DataW H := .iface "*errors.errorString" (.ptr (.agg [.lit (.string [99, 111, 110, 99, 111, 114, 100, 58, 32, 102, 105, 101, 108, 100])]))
def laid_concord_api_ErrValue {H : Type} : DataW H := .iface "*errors.errorString" (.ptr (.agg [.lit (.string [99, 111, 110, 99, 111, 114, 100, 58, 32, 118, 97, 108, 117, 101])]))
def laid_concord_api_ErrPattern {H : Type} : DataW H := .iface "*errors.errorString" (.ptr (.agg [.lit (.string [99, 111, 110, 99, 111, 114, 100, 58, 32, 112, 97, 116, 116, 101, 114, 110])]))
def laid_concord_api_ErrStates {H : Type} : DataW H := .iface "*errors.errorString" (.ptr (.agg [.lit (.string [99, 111, 110, 99, 111, 114, 100, 58, 32, 115, 116, 97, 116, 101, 115])]))
def laid_concord_api_ErrSyntax {H : Type} : DataW H := .iface "*errors.errorString" (.ptr (.agg [.lit (.string [99, 111, 110, 99, 111, 114, 100, 58, 32, 115, 121, 110, 116, 97, 120])]))
def laid_concord_api_ErrDeep {H : Type} : DataW H := .iface "*errors.errorString" (.ptr (.agg [.lit (.string [99, 111, 110, 99, 111, 114, 100, 58, 32, 116, 111, 111, 32, 100, 101, 101, 112])]))
def laid_concord_api_ErrNode {H : Type} : DataW H := .iface "*errors.errorString" (.ptr (.agg [.lit (.string [99, 111, 110, 99, 111, 114, 100, 58, 32, 110, 111, 100, 101])]))
def laid_concord_api_ErrTerms {H : Type} : DataW H := .iface "*errors.errorString" (.ptr (.agg [.lit (.string [99, 111, 110, 99, 111, 114, 100, 58, 32, 116, 111, 111, 32, 109, 97, 110, 121, 32, 116, 101, 114, 109, 115])]))
def laid_concord_api_ErrScore {H : Type} : DataW H := .iface "*errors.errorString" (.ptr (.agg [.lit (.string [99, 111, 110, 99, 111, 114, 100, 58, 32, 115, 99, 111, 114, 101, 32, 111, 118, 101, 114, 102, 108, 111, 119])]))
def laid_concord_api_ErrCode {H : Type} : DataW H := .iface "*errors.errorString" (.ptr (.agg [.lit (.string [99, 111, 110, 99, 111, 114, 100, 58, 32, 99, 111, 100, 101])]))
def laid_concord_api_ErrFuel {H : Type} : DataW H := .iface "*errors.errorString" (.ptr (.agg [.lit (.string [99, 111, 110, 99, 111, 114, 100, 58, 32, 102, 117, 101, 108])]))
def laid_concord_api_ErrDoc {H : Type} : DataW H := .iface "*errors.errorString" (.ptr (.agg [.lit (.string [99, 111, 110, 99, 111, 114, 100, 58, 32, 100, 111, 99, 117, 109, 101, 110, 116])]))
def laid_concord_api_ErrCommand {H : Type} : DataW H := .iface "*errors.errorString" (.ptr (.agg [.lit (.string [99, 111, 110, 99, 111, 114, 100, 58, 32, 99, 111, 109, 109, 97, 110, 100])]))
def laid_concord_lexer_classes {H : Type} : DataW H := .agg [.lit (.int .u8 0), .lit (.int .u8 0), .lit (.int .u8 0), .lit (.int .u8 0), .lit (.int .u8 0), .lit (.int .u8 0), .lit (.int .u8 0), .lit (.int .u8 0), .lit (.int .u8 0), .lit (.int .u8 1), .lit (.int .u8 1), .lit (.int .u8 0), .lit (.int .u8 0), .lit (.int .u8 1), .lit (.int .u8 0), .lit (.int .u8 0), .lit (.int .u8 0), .lit (.int .u8 0), .lit (.int .u8 0), .lit (.int .u8 0), .lit (.int .u8 0), .lit (.int .u8 0), .lit (.int .u8 0), .lit (.int .u8 0), .lit (.int .u8 0), .lit (.int .u8 0), .lit (.int .u8 0), .lit (.int .u8 0), .lit (.int .u8 0), .lit (.int .u8 0), .lit (.int .u8 0), .lit (.int .u8 0), .lit (.int .u8 1), .lit (.int .u8 0), .lit (.int .u8 2), .lit (.int .u8 0), .lit (.int .u8 0), .lit (.int .u8 0), .lit (.int .u8 0), .lit (.int .u8 0), .lit (.int .u8 2), .lit (.int .u8 2), .lit (.int .u8 3), .lit (.int .u8 0), .lit (.int .u8 0), .lit (.int .u8 0), .lit (.int .u8 0), .lit (.int .u8 0), .lit (.int .u8 0), .lit (.int .u8 0), .lit (.int .u8 0), .lit (.int .u8 0), .lit (.int .u8 0), .lit (.int .u8 0), .lit (.int .u8 0), .lit (.int .u8 0), .lit (.int .u8 0), .lit (.int .u8 0), .lit (.int .u8 2), .lit (.int .u8 0), .lit (.int .u8 0), .lit (.int .u8 0), .lit (.int .u8 0), .lit (.int .u8 3), .lit (.int .u8 2), .lit (.int .u8 0), .lit (.int .u8 0), .lit (.int .u8 0), .lit (.int .u8 0), .lit (.int .u8 0), .lit (.int .u8 0), .lit (.int .u8 0), .lit (.int .u8 0), .lit (.int .u8 0), .lit (.int .u8 0), .lit (.int .u8 0), .lit (.int .u8 0), .lit (.int .u8 0), .lit (.int .u8 0), .lit (.int .u8 0), .lit (.int .u8 0), .lit (.int .u8 0), .lit (.int .u8 0), .lit (.int .u8 0), .lit (.int .u8 0), .lit (.int .u8 0), .lit (.int .u8 0), .lit (.int .u8 0), .lit (.int .u8 0), .lit (.int .u8 0), .lit (.int .u8 0), .lit (.int .u8 2), .lit (.int .u8 4), .lit (.int .u8 2), .lit (.int .u8 2), .lit (.int .u8 0), .lit (.int .u8 0), .lit (.int .u8 0), .lit (.int .u8 0), .lit (.int .u8 0), .lit (.int .u8 0), .lit (.int .u8 0), .lit (.int .u8 0), .lit (.int .u8 0), .lit (.int .u8 0), .lit (.int .u8 0), .lit (.int .u8 0), .lit (.int .u8 0), .lit (.int .u8 0), .lit (.int .u8 0), .lit (.int .u8 0), .lit (.int .u8 0), .lit (.int .u8 0), .lit (.int .u8 0), .lit (.int .u8 0), .lit (.int .u8 0), .lit (.int .u8 0), .lit (.int .u8 0), .lit (.int .u8 0), .lit (.int .u8 0), .lit (.int .u8 0), .lit (.int .u8 0), .lit (.int .u8 0), .lit (.int .u8 2), .lit (.int .u8 2), .lit (.int .u8 2), .lit (.int .u8 2), .lit (.int .u8 0)]

/-- 'concordlaw14.SyntaxChecks': WHATEVER THE INPUT: true; the input reads as it did. -/
def syntaxChecksSpec : ChangeSpec := { name := "syntaxChecks", fn := fun _ => fun
  | [d] => { results := [.lit (.bool true)], args := [d] }
  | _ => none }
def syntaxChecksRow : OpenClaim := { program := "ytcomdkejpaoneaadoor", sum := "fbd7375c6f417f8f94ef3bb747534cabdd4e1951332a7ee2b955783ef2d64fb5", func := "concord/concordlaw14.SyntaxChecks", spec := "syntaxChecks", unfollowed := true, recurses := true, named := ["concord/api.ErrSyntax", "concord/lexer.classes", "concord/api.ErrDeep", "concord/api.ErrShort", "concord/api.ErrVarint", "concord/api.ErrLimit", "concord/api.ErrOrder", "concord/api.ErrTail", "concord/api.ErrTag", "concord/api.ErrSum", "concord/api.ErrRange", "concord/api.ErrSize", "concord/api.ErrCorrupt", "concord/api.ErrSchema", "concord/api.ErrField", "concord/api.ErrValue", "concord/api.ErrPattern", "concord/api.ErrStates", "concord/api.ErrNode", "concord/api.ErrTerms", "concord/api.ErrScore", "concord/api.ErrCode", "concord/api.ErrFuel", "concord/api.ErrDoc", "concord/api.ErrCommand"], apart := false, laid := [("concord/api.ErrShort", laid_concord_api_ErrShort), ("concord/api.ErrVarint", laid_concord_api_ErrVarint), ("concord/api.ErrLimit", laid_concord_api_ErrLimit), ("concord/api.ErrOrder", laid_concord_api_ErrOrder), ("concord/api.ErrTail", laid_concord_api_ErrTail), ("concord/api.ErrTag", laid_concord_api_ErrTag), ("concord/api.ErrSum", laid_concord_api_ErrSum), ("concord/api.ErrRange", laid_concord_api_ErrRange), ("concord/api.ErrSize", laid_concord_api_ErrSize), ("concord/api.ErrCorrupt", laid_concord_api_ErrCorrupt), ("concord/api.ErrSchema", laid_concord_api_ErrSchema), ("concord/api.ErrField", laid_concord_api_ErrField), ("concord/api.ErrValue", laid_concord_api_ErrValue), ("concord/api.ErrPattern", laid_concord_api_ErrPattern), ("concord/api.ErrStates", laid_concord_api_ErrStates), ("concord/api.ErrSyntax", laid_concord_api_ErrSyntax), ("concord/api.ErrDeep", laid_concord_api_ErrDeep), ("concord/api.ErrNode", laid_concord_api_ErrNode), ("concord/api.ErrTerms", laid_concord_api_ErrTerms), ("concord/api.ErrScore", laid_concord_api_ErrScore), ("concord/api.ErrCode", laid_concord_api_ErrCode), ("concord/api.ErrFuel", laid_concord_api_ErrFuel), ("concord/api.ErrDoc", laid_concord_api_ErrDoc), ("concord/api.ErrCommand", laid_concord_api_ErrCommand), ("concord/lexer.classes", laid_concord_lexer_classes)] }
def SyntaxChecksSaid : Prop := syntaxChecksRow.holds Tryd.pinned (OpenSpec.ofChange syntaxChecksSpec)

/-- ITS FALSE NEIGHBOUR: 'it returns false'. Refute it at one input. -/
def syntaxChecksWrong : ChangeSpec := { name := "syntaxChecks", fn := fun _ => fun
  | [d] => { results := [.lit (.bool false)], args := [d] }
  | _ => none }
def SyntaxChecksWrongFalsely : Prop := syntaxChecksRow.holds Tryd.pinned (OpenSpec.ofChange syntaxChecksWrong)

/-- 'concordlaw14.SyntaxParses': WHATEVER THE INPUT: true; the input reads as it did. -/
def syntaxParsesSpec : ChangeSpec := { name := "syntaxParses", fn := fun _ => fun
  | [d] => { results := [.lit (.bool true)], args := [d] }
  | _ => none }
def syntaxParsesRow : OpenClaim := { program := "ytcomdkejpaoneaadoor", sum := "fbd7375c6f417f8f94ef3bb747534cabdd4e1951332a7ee2b955783ef2d64fb5", func := "concord/concordlaw14.SyntaxParses", spec := "syntaxParses", unfollowed := true, recurses := true, named := ["concord/api.ErrSyntax", "concord/lexer.classes", "concord/api.ErrDeep", "concord/api.ErrShort", "concord/api.ErrVarint", "concord/api.ErrLimit", "concord/api.ErrOrder", "concord/api.ErrTail", "concord/api.ErrTag", "concord/api.ErrSum", "concord/api.ErrRange", "concord/api.ErrSize", "concord/api.ErrCorrupt", "concord/api.ErrSchema", "concord/api.ErrField", "concord/api.ErrValue", "concord/api.ErrPattern", "concord/api.ErrStates", "concord/api.ErrNode", "concord/api.ErrTerms", "concord/api.ErrScore", "concord/api.ErrCode", "concord/api.ErrFuel", "concord/api.ErrDoc", "concord/api.ErrCommand"], apart := false, laid := [("concord/api.ErrShort", laid_concord_api_ErrShort), ("concord/api.ErrVarint", laid_concord_api_ErrVarint), ("concord/api.ErrLimit", laid_concord_api_ErrLimit), ("concord/api.ErrOrder", laid_concord_api_ErrOrder), ("concord/api.ErrTail", laid_concord_api_ErrTail), ("concord/api.ErrTag", laid_concord_api_ErrTag), ("concord/api.ErrSum", laid_concord_api_ErrSum), ("concord/api.ErrRange", laid_concord_api_ErrRange), ("concord/api.ErrSize", laid_concord_api_ErrSize), ("concord/api.ErrCorrupt", laid_concord_api_ErrCorrupt), ("concord/api.ErrSchema", laid_concord_api_ErrSchema), ("concord/api.ErrField", laid_concord_api_ErrField), ("concord/api.ErrValue", laid_concord_api_ErrValue), ("concord/api.ErrPattern", laid_concord_api_ErrPattern), ("concord/api.ErrStates", laid_concord_api_ErrStates), ("concord/api.ErrSyntax", laid_concord_api_ErrSyntax), ("concord/api.ErrDeep", laid_concord_api_ErrDeep), ("concord/api.ErrNode", laid_concord_api_ErrNode), ("concord/api.ErrTerms", laid_concord_api_ErrTerms), ("concord/api.ErrScore", laid_concord_api_ErrScore), ("concord/api.ErrCode", laid_concord_api_ErrCode), ("concord/api.ErrFuel", laid_concord_api_ErrFuel), ("concord/api.ErrDoc", laid_concord_api_ErrDoc), ("concord/api.ErrCommand", laid_concord_api_ErrCommand), ("concord/lexer.classes", laid_concord_lexer_classes)] }
def SyntaxParsesSaid : Prop := syntaxParsesRow.holds Tryd.pinned (OpenSpec.ofChange syntaxParsesSpec)

/-- ITS FALSE NEIGHBOUR: 'it returns false'. Refute it at one input. -/
def syntaxParsesWrong : ChangeSpec := { name := "syntaxParses", fn := fun _ => fun
  | [d] => { results := [.lit (.bool false)], args := [d] }
  | _ => none }
def SyntaxParsesWrongFalsely : Prop := syntaxParsesRow.holds Tryd.pinned (OpenSpec.ofChange syntaxParsesWrong)

/-- 'concordlaw14.SyntaxAgree': WHATEVER THE INPUT: true; the input reads as it did. -/
def syntaxAgreeSpec : ChangeSpec := { name := "syntaxAgree", fn := fun _ => fun
  | [d] => { results := [.lit (.bool true)], args := [d] }
  | _ => none }
def syntaxAgreeRow : OpenClaim := { program := "ytcomdkejpaoneaadoor", sum := "fbd7375c6f417f8f94ef3bb747534cabdd4e1951332a7ee2b955783ef2d64fb5", func := "concord/concordlaw14.SyntaxAgree", spec := "syntaxAgree", unfollowed := true, recurses := true, named := ["concord/api.ErrSyntax", "concord/lexer.classes", "concord/api.ErrDeep", "concord/api.ErrShort", "concord/api.ErrVarint", "concord/api.ErrLimit", "concord/api.ErrOrder", "concord/api.ErrTail", "concord/api.ErrTag", "concord/api.ErrSum", "concord/api.ErrRange", "concord/api.ErrSize", "concord/api.ErrCorrupt", "concord/api.ErrSchema", "concord/api.ErrField", "concord/api.ErrValue", "concord/api.ErrPattern", "concord/api.ErrStates", "concord/api.ErrNode", "concord/api.ErrTerms", "concord/api.ErrScore", "concord/api.ErrCode", "concord/api.ErrFuel", "concord/api.ErrDoc", "concord/api.ErrCommand"], apart := false, laid := [("concord/api.ErrShort", laid_concord_api_ErrShort), ("concord/api.ErrVarint", laid_concord_api_ErrVarint), ("concord/api.ErrLimit", laid_concord_api_ErrLimit), ("concord/api.ErrOrder", laid_concord_api_ErrOrder), ("concord/api.ErrTail", laid_concord_api_ErrTail), ("concord/api.ErrTag", laid_concord_api_ErrTag), ("concord/api.ErrSum", laid_concord_api_ErrSum), ("concord/api.ErrRange", laid_concord_api_ErrRange), ("concord/api.ErrSize", laid_concord_api_ErrSize), ("concord/api.ErrCorrupt", laid_concord_api_ErrCorrupt), ("concord/api.ErrSchema", laid_concord_api_ErrSchema), ("concord/api.ErrField", laid_concord_api_ErrField), ("concord/api.ErrValue", laid_concord_api_ErrValue), ("concord/api.ErrPattern", laid_concord_api_ErrPattern), ("concord/api.ErrStates", laid_concord_api_ErrStates), ("concord/api.ErrSyntax", laid_concord_api_ErrSyntax), ("concord/api.ErrDeep", laid_concord_api_ErrDeep), ("concord/api.ErrNode", laid_concord_api_ErrNode), ("concord/api.ErrTerms", laid_concord_api_ErrTerms), ("concord/api.ErrScore", laid_concord_api_ErrScore), ("concord/api.ErrCode", laid_concord_api_ErrCode), ("concord/api.ErrFuel", laid_concord_api_ErrFuel), ("concord/api.ErrDoc", laid_concord_api_ErrDoc), ("concord/api.ErrCommand", laid_concord_api_ErrCommand), ("concord/lexer.classes", laid_concord_lexer_classes)] }
def SyntaxAgreeSaid : Prop := syntaxAgreeRow.holds Tryd.pinned (OpenSpec.ofChange syntaxAgreeSpec)

/-- ITS FALSE NEIGHBOUR: 'it returns false'. Refute it at one input. -/
def syntaxAgreeWrong : ChangeSpec := { name := "syntaxAgree", fn := fun _ => fun
  | [d] => { results := [.lit (.bool false)], args := [d] }
  | _ => none }
def SyntaxAgreeWrongFalsely : Prop := syntaxAgreeRow.holds Tryd.pinned (OpenSpec.ofChange syntaxAgreeWrong)

/-- 'concordlaw14.SyntaxOneWay': WHATEVER THE INPUT: true; the input reads as it did. -/
def syntaxOneWaySpec : ChangeSpec := { name := "syntaxOneWay", fn := fun _ => fun
  | [d] => { results := [.lit (.bool true)], args := [d] }
  | _ => none }
def syntaxOneWayRow : OpenClaim := { program := "ytcomdkejpaoneaadoor", sum := "fbd7375c6f417f8f94ef3bb747534cabdd4e1951332a7ee2b955783ef2d64fb5", func := "concord/concordlaw14.SyntaxOneWay", spec := "syntaxOneWay", unfollowed := true, recurses := true, named := ["concord/api.ErrSyntax", "concord/lexer.classes", "concord/api.ErrDeep"], apart := false, laid := [("concord/api.ErrSyntax", laid_concord_api_ErrSyntax), ("concord/api.ErrDeep", laid_concord_api_ErrDeep), ("concord/lexer.classes", laid_concord_lexer_classes)] }
def SyntaxOneWaySaid : Prop := syntaxOneWayRow.holds Tryd.pinned (OpenSpec.ofChange syntaxOneWaySpec)

/-- ITS FALSE NEIGHBOUR: 'it returns false'. Refute it at one input. -/
def syntaxOneWayWrong : ChangeSpec := { name := "syntaxOneWay", fn := fun _ => fun
  | [d] => { results := [.lit (.bool false)], args := [d] }
  | _ => none }
def SyntaxOneWayWrongFalsely : Prop := syntaxOneWayRow.holds Tryd.pinned (OpenSpec.ofChange syntaxOneWayWrong)

/-- 'concordlaw14.SyntaxBrackets': WHATEVER THE INPUT: true; the input reads as it did. -/
def syntaxBracketsSpec : ChangeSpec := { name := "syntaxBrackets", fn := fun _ => fun
  | [d] => { results := [.lit (.bool true)], args := [d] }
  | _ => none }
def syntaxBracketsRow : OpenClaim := { program := "ytcomdkejpaoneaadoor", sum := "fbd7375c6f417f8f94ef3bb747534cabdd4e1951332a7ee2b955783ef2d64fb5", func := "concord/concordlaw14.SyntaxBrackets", spec := "syntaxBrackets", unfollowed := true, recurses := true, named := ["concord/api.ErrSyntax", "concord/lexer.classes", "concord/api.ErrDeep"], apart := false, laid := [("concord/api.ErrSyntax", laid_concord_api_ErrSyntax), ("concord/api.ErrDeep", laid_concord_api_ErrDeep), ("concord/lexer.classes", laid_concord_lexer_classes)] }
def SyntaxBracketsSaid : Prop := syntaxBracketsRow.holds Tryd.pinned (OpenSpec.ofChange syntaxBracketsSpec)

/-- ITS FALSE NEIGHBOUR: 'it returns false'. Refute it at one input. -/
def syntaxBracketsWrong : ChangeSpec := { name := "syntaxBrackets", fn := fun _ => fun
  | [d] => { results := [.lit (.bool false)], args := [d] }
  | _ => none }
def SyntaxBracketsWrongFalsely : Prop := syntaxBracketsRow.holds Tryd.pinned (OpenSpec.ofChange syntaxBracketsWrong)

/-- 'concordlaw14.SyntaxBlanks': WHATEVER THE INPUT: true; the input reads as it did. -/
def syntaxBlanksSpec : ChangeSpec := { name := "syntaxBlanks", fn := fun _ => fun
  | [d1, d2] => { results := [.lit (.bool true)], args := [d1, d2] }
  | _ => none }
def syntaxBlanksRow : OpenClaim := { program := "ytcomdkejpaoneaadoor", sum := "fbd7375c6f417f8f94ef3bb747534cabdd4e1951332a7ee2b955783ef2d64fb5", func := "concord/concordlaw14.SyntaxBlanks", spec := "syntaxBlanks", unfollowed := true, recurses := true, named := ["concord/api.ErrSyntax", "concord/lexer.classes", "concord/api.ErrDeep", "concord/api.ErrShort", "concord/api.ErrVarint", "concord/api.ErrLimit", "concord/api.ErrOrder", "concord/api.ErrTail", "concord/api.ErrTag", "concord/api.ErrSum", "concord/api.ErrRange", "concord/api.ErrSize", "concord/api.ErrCorrupt", "concord/api.ErrSchema", "concord/api.ErrField", "concord/api.ErrValue", "concord/api.ErrPattern", "concord/api.ErrStates", "concord/api.ErrNode", "concord/api.ErrTerms", "concord/api.ErrScore", "concord/api.ErrCode", "concord/api.ErrFuel", "concord/api.ErrDoc", "concord/api.ErrCommand"], apart := false, laid := [("concord/api.ErrShort", laid_concord_api_ErrShort), ("concord/api.ErrVarint", laid_concord_api_ErrVarint), ("concord/api.ErrLimit", laid_concord_api_ErrLimit), ("concord/api.ErrOrder", laid_concord_api_ErrOrder), ("concord/api.ErrTail", laid_concord_api_ErrTail), ("concord/api.ErrTag", laid_concord_api_ErrTag), ("concord/api.ErrSum", laid_concord_api_ErrSum), ("concord/api.ErrRange", laid_concord_api_ErrRange), ("concord/api.ErrSize", laid_concord_api_ErrSize), ("concord/api.ErrCorrupt", laid_concord_api_ErrCorrupt), ("concord/api.ErrSchema", laid_concord_api_ErrSchema), ("concord/api.ErrField", laid_concord_api_ErrField), ("concord/api.ErrValue", laid_concord_api_ErrValue), ("concord/api.ErrPattern", laid_concord_api_ErrPattern), ("concord/api.ErrStates", laid_concord_api_ErrStates), ("concord/api.ErrSyntax", laid_concord_api_ErrSyntax), ("concord/api.ErrDeep", laid_concord_api_ErrDeep), ("concord/api.ErrNode", laid_concord_api_ErrNode), ("concord/api.ErrTerms", laid_concord_api_ErrTerms), ("concord/api.ErrScore", laid_concord_api_ErrScore), ("concord/api.ErrCode", laid_concord_api_ErrCode), ("concord/api.ErrFuel", laid_concord_api_ErrFuel), ("concord/api.ErrDoc", laid_concord_api_ErrDoc), ("concord/api.ErrCommand", laid_concord_api_ErrCommand), ("concord/lexer.classes", laid_concord_lexer_classes)] }
def SyntaxBlanksSaid : Prop := syntaxBlanksRow.holds Tryd.pinned (OpenSpec.ofChange syntaxBlanksSpec)

/-- ITS FALSE NEIGHBOUR: 'it returns false'. Refute it at one input. -/
def syntaxBlanksWrong : ChangeSpec := { name := "syntaxBlanks", fn := fun _ => fun
  | [d1, d2] => { results := [.lit (.bool false)], args := [d1, d2] }
  | _ => none }
def SyntaxBlanksWrongFalsely : Prop := syntaxBlanksRow.holds Tryd.pinned (OpenSpec.ofChange syntaxBlanksWrong)

/-- 'concordlaw14.SyntaxJoins': WHATEVER THE INPUT: true; the input reads as it did. -/
def syntaxJoinsSpec : ChangeSpec := { name := "syntaxJoins", fn := fun _ => fun
  | [d1, d2] => { results := [.lit (.bool true)], args := [d1, d2] }
  | _ => none }
def syntaxJoinsRow : OpenClaim := { program := "ytcomdkejpaoneaadoor", sum := "fbd7375c6f417f8f94ef3bb747534cabdd4e1951332a7ee2b955783ef2d64fb5", func := "concord/concordlaw14.SyntaxJoins", spec := "syntaxJoins", unfollowed := true, recurses := true, named := ["concord/api.ErrSyntax", "concord/lexer.classes", "concord/api.ErrDeep"], apart := false, laid := [("concord/api.ErrSyntax", laid_concord_api_ErrSyntax), ("concord/api.ErrDeep", laid_concord_api_ErrDeep), ("concord/lexer.classes", laid_concord_lexer_classes)] }
def SyntaxJoinsSaid : Prop := syntaxJoinsRow.holds Tryd.pinned (OpenSpec.ofChange syntaxJoinsSpec)

/-- ITS FALSE NEIGHBOUR: 'it returns false'. Refute it at one input. -/
def syntaxJoinsWrong : ChangeSpec := { name := "syntaxJoins", fn := fun _ => fun
  | [d1, d2] => { results := [.lit (.bool false)], args := [d1, d2] }
  | _ => none }
def SyntaxJoinsWrongFalsely : Prop := syntaxJoinsRow.holds Tryd.pinned (OpenSpec.ofChange syntaxJoinsWrong)

/-- 'concordlaw14.SyntaxLeaves': WHATEVER THE INPUT: true; the input reads as it did. -/
def syntaxLeavesSpec : ChangeSpec := { name := "syntaxLeaves", fn := fun _ => fun
  | [d1, d2, d3] => { results := [.lit (.bool true)], args := [d1, d2, d3] }
  | _ => none }
def syntaxLeavesRow : OpenClaim := { program := "ytcomdkejpaoneaadoor", sum := "fbd7375c6f417f8f94ef3bb747534cabdd4e1951332a7ee2b955783ef2d64fb5", func := "concord/concordlaw14.SyntaxLeaves", spec := "syntaxLeaves", unfollowed := true, recurses := true, named := ["concord/api.ErrSyntax", "concord/lexer.classes", "concord/api.ErrDeep"], apart := false, laid := [("concord/api.ErrSyntax", laid_concord_api_ErrSyntax), ("concord/api.ErrDeep", laid_concord_api_ErrDeep), ("concord/lexer.classes", laid_concord_lexer_classes)] }
def SyntaxLeavesSaid : Prop := syntaxLeavesRow.holds Tryd.pinned (OpenSpec.ofChange syntaxLeavesSpec)

/-- ITS FALSE NEIGHBOUR: 'it returns false'. Refute it at one input. -/
def syntaxLeavesWrong : ChangeSpec := { name := "syntaxLeaves", fn := fun _ => fun
  | [d1, d2, d3] => { results := [.lit (.bool false)], args := [d1, d2, d3] }
  | _ => none }
def SyntaxLeavesWrongFalsely : Prop := syntaxLeavesRow.holds Tryd.pinned (OpenSpec.ofChange syntaxLeavesWrong)

/-- 'concordlaw14.SyntaxEnds': WHATEVER THE INPUT: true; the input reads as it did. -/
def syntaxEndsSpec : ChangeSpec := { name := "syntaxEnds", fn := fun _ => fun
  | [d] => { results := [.lit (.bool true)], args := [d] }
  | _ => none }
def syntaxEndsRow : OpenClaim := { program := "ytcomdkejpaoneaadoor", sum := "fbd7375c6f417f8f94ef3bb747534cabdd4e1951332a7ee2b955783ef2d64fb5", func := "concord/concordlaw14.SyntaxEnds", spec := "syntaxEnds", unfollowed := true, recurses := true, named := ["concord/api.ErrSyntax", "concord/lexer.classes", "concord/api.ErrDeep"], apart := false, laid := [("concord/api.ErrSyntax", laid_concord_api_ErrSyntax), ("concord/api.ErrDeep", laid_concord_api_ErrDeep), ("concord/lexer.classes", laid_concord_lexer_classes)] }
def SyntaxEndsSaid : Prop := syntaxEndsRow.holds Tryd.pinned (OpenSpec.ofChange syntaxEndsSpec)

/-- ITS FALSE NEIGHBOUR: 'it returns false'. Refute it at one input. -/
def syntaxEndsWrong : ChangeSpec := { name := "syntaxEnds", fn := fun _ => fun
  | [d] => { results := [.lit (.bool false)], args := [d] }
  | _ => none }
def SyntaxEndsWrongFalsely : Prop := syntaxEndsRow.holds Tryd.pinned (OpenSpec.ofChange syntaxEndsWrong)

/-- 'concordlaw14.SyntaxFollows': WHATEVER THE INPUT: true; the input reads as it did. -/
def syntaxFollowsSpec : ChangeSpec := { name := "syntaxFollows", fn := fun _ => fun
  | [d] => { results := [.lit (.bool true)], args := [d] }
  | _ => none }
def syntaxFollowsRow : OpenClaim := { program := "ytcomdkejpaoneaadoor", sum := "fbd7375c6f417f8f94ef3bb747534cabdd4e1951332a7ee2b955783ef2d64fb5", func := "concord/concordlaw14.SyntaxFollows", spec := "syntaxFollows", unfollowed := true, recurses := true, named := ["concord/api.ErrSyntax", "concord/lexer.classes", "concord/api.ErrDeep"], apart := false, laid := [("concord/api.ErrSyntax", laid_concord_api_ErrSyntax), ("concord/api.ErrDeep", laid_concord_api_ErrDeep), ("concord/lexer.classes", laid_concord_lexer_classes)] }
def SyntaxFollowsSaid : Prop := syntaxFollowsRow.holds Tryd.pinned (OpenSpec.ofChange syntaxFollowsSpec)

/-- ITS FALSE NEIGHBOUR: 'it returns false'. Refute it at one input. -/
def syntaxFollowsWrong : ChangeSpec := { name := "syntaxFollows", fn := fun _ => fun
  | [d] => { results := [.lit (.bool false)], args := [d] }
  | _ => none }
def SyntaxFollowsWrongFalsely : Prop := syntaxFollowsRow.holds Tryd.pinned (OpenSpec.ofChange syntaxFollowsWrong)

/-- 'concordlaw14.SyntaxWays': WHATEVER THE INPUT: true; the input reads as it did. -/
def syntaxWaysSpec : ChangeSpec := { name := "syntaxWays", fn := fun _ => fun
  | [d] => { results := [.lit (.bool true)], args := [d] }
  | _ => none }
def syntaxWaysRow : OpenClaim := { program := "ytcomdkejpaoneaadoor", sum := "fbd7375c6f417f8f94ef3bb747534cabdd4e1951332a7ee2b955783ef2d64fb5", func := "concord/concordlaw14.SyntaxWays", spec := "syntaxWays", unfollowed := true, recurses := true, named := ["concord/api.ErrSyntax", "concord/lexer.classes", "concord/api.ErrDeep"], apart := false, laid := [("concord/api.ErrSyntax", laid_concord_api_ErrSyntax), ("concord/api.ErrDeep", laid_concord_api_ErrDeep), ("concord/lexer.classes", laid_concord_lexer_classes)] }
def SyntaxWaysSaid : Prop := syntaxWaysRow.holds Tryd.pinned (OpenSpec.ofChange syntaxWaysSpec)

/-- ITS FALSE NEIGHBOUR: 'it returns false'. Refute it at one input. -/
def syntaxWaysWrong : ChangeSpec := { name := "syntaxWays", fn := fun _ => fun
  | [d] => { results := [.lit (.bool false)], args := [d] }
  | _ => none }
def SyntaxWaysWrongFalsely : Prop := syntaxWaysRow.holds Tryd.pinned (OpenSpec.ofChange syntaxWaysWrong)

/- THE SECOND FORM. 'bulk': how many values and letters a reading holds, each counted each time it is reached (what is shared counts as often as it is met; a slice's spare places count too). A statement '..UptoSaid' is the law's where the arguments, and the package variables that the reading takes, are together of bulk at most 1048576: NARROWER than '..Said'. Prove '..Said' where nothing that the law and all that it calls make is longer than what came in: it says more and counts as full. Else prove '..UptoSaid'. A law counts once. -/
mutual
def uptoBulk {H : Type} : DataW H → Nat
  | .lit (.string bytes) => bytes.length + 1
  | .lit _ => 1
  | .nil => 1
  | .ptr d => uptoBulk d + 1
  | .slice elems spare => uptoBulkAll elems + uptoBulkAll spare + 1
  | .agg parts => uptoBulkAll parts + 1
  | .iface _ d => uptoBulk d + 1
  | .map entries => uptoBulkEntries entries + 1
  | .held _ => 1
def uptoBulkAll {H : Type} : List (DataW H) → Nat
  | [] => 0
  | d :: r => uptoBulk d + uptoBulkAll r
def uptoBulkEntries {H : Type} : List (Lit × DataW H) → Nat
  | [] => 0
  | x :: r => uptoBulkEntry x + uptoBulkEntries r
def uptoBulkEntry {H : Type} : Lit × DataW H → Nat
  | (.string bytes, d) => bytes.length + uptoBulk d + 1
  | (_, d) => uptoBulk d + 1
 end
def uptoSmall : (H : Type) → List (DataW H) → Bool := fun _ ds => decide (uptoBulkAll ds ≤ 1048576)
def OpenSpec.upto (s : _root_.Go.ChangeSpec) : _root_.Go.OpenSpec := { _root_.Go.OpenSpec.ofChange s with cond := some uptoSmall }

/-- 'concordlaw14.SyntaxChecks', WHERE WHAT IT READS IS OF BULK AT MOST 1048576: true; the input reads as it did. -/
def syntaxChecksUptoRow : OpenClaim := { program := "ytcomdkejpaoneaadoor", sum := "fbd7375c6f417f8f94ef3bb747534cabdd4e1951332a7ee2b955783ef2d64fb5", func := "concord/concordlaw14.SyntaxChecks", spec := "syntaxChecks", unfollowed := true, recurses := true, named := ["concord/api.ErrSyntax", "concord/lexer.classes", "concord/api.ErrDeep", "concord/api.ErrShort", "concord/api.ErrVarint", "concord/api.ErrLimit", "concord/api.ErrOrder", "concord/api.ErrTail", "concord/api.ErrTag", "concord/api.ErrSum", "concord/api.ErrRange", "concord/api.ErrSize", "concord/api.ErrCorrupt", "concord/api.ErrSchema", "concord/api.ErrField", "concord/api.ErrValue", "concord/api.ErrPattern", "concord/api.ErrStates", "concord/api.ErrNode", "concord/api.ErrTerms", "concord/api.ErrScore", "concord/api.ErrCode", "concord/api.ErrFuel", "concord/api.ErrDoc", "concord/api.ErrCommand"], apart := false, laid := [("concord/api.ErrShort", laid_concord_api_ErrShort), ("concord/api.ErrVarint", laid_concord_api_ErrVarint), ("concord/api.ErrLimit", laid_concord_api_ErrLimit), ("concord/api.ErrOrder", laid_concord_api_ErrOrder), ("concord/api.ErrTail", laid_concord_api_ErrTail), ("concord/api.ErrTag", laid_concord_api_ErrTag), ("concord/api.ErrSum", laid_concord_api_ErrSum), ("concord/api.ErrRange", laid_concord_api_ErrRange), ("concord/api.ErrSize", laid_concord_api_ErrSize), ("concord/api.ErrCorrupt", laid_concord_api_ErrCorrupt), ("concord/api.ErrSchema", laid_concord_api_ErrSchema), ("concord/api.ErrField", laid_concord_api_ErrField), ("concord/api.ErrValue", laid_concord_api_ErrValue), ("concord/api.ErrPattern", laid_concord_api_ErrPattern), ("concord/api.ErrStates", laid_concord_api_ErrStates), ("concord/api.ErrSyntax", laid_concord_api_ErrSyntax), ("concord/api.ErrDeep", laid_concord_api_ErrDeep), ("concord/api.ErrNode", laid_concord_api_ErrNode), ("concord/api.ErrTerms", laid_concord_api_ErrTerms), ("concord/api.ErrScore", laid_concord_api_ErrScore), ("concord/api.ErrCode", laid_concord_api_ErrCode), ("concord/api.ErrFuel", laid_concord_api_ErrFuel), ("concord/api.ErrDoc", laid_concord_api_ErrDoc), ("concord/api.ErrCommand", laid_concord_api_ErrCommand), ("concord/lexer.classes", laid_concord_lexer_classes)], narrowed := true }
def SyntaxChecksUptoSaid : Prop := syntaxChecksUptoRow.holds Tryd.pinned (OpenSpec.upto syntaxChecksSpec)

/-- 'concordlaw14.SyntaxParses', WHERE WHAT IT READS IS OF BULK AT MOST 1048576: true; the input reads as it did. -/
def syntaxParsesUptoRow : OpenClaim := { program := "ytcomdkejpaoneaadoor", sum := "fbd7375c6f417f8f94ef3bb747534cabdd4e1951332a7ee2b955783ef2d64fb5", func := "concord/concordlaw14.SyntaxParses", spec := "syntaxParses", unfollowed := true, recurses := true, named := ["concord/api.ErrSyntax", "concord/lexer.classes", "concord/api.ErrDeep", "concord/api.ErrShort", "concord/api.ErrVarint", "concord/api.ErrLimit", "concord/api.ErrOrder", "concord/api.ErrTail", "concord/api.ErrTag", "concord/api.ErrSum", "concord/api.ErrRange", "concord/api.ErrSize", "concord/api.ErrCorrupt", "concord/api.ErrSchema", "concord/api.ErrField", "concord/api.ErrValue", "concord/api.ErrPattern", "concord/api.ErrStates", "concord/api.ErrNode", "concord/api.ErrTerms", "concord/api.ErrScore", "concord/api.ErrCode", "concord/api.ErrFuel", "concord/api.ErrDoc", "concord/api.ErrCommand"], apart := false, laid := [("concord/api.ErrShort", laid_concord_api_ErrShort), ("concord/api.ErrVarint", laid_concord_api_ErrVarint), ("concord/api.ErrLimit", laid_concord_api_ErrLimit), ("concord/api.ErrOrder", laid_concord_api_ErrOrder), ("concord/api.ErrTail", laid_concord_api_ErrTail), ("concord/api.ErrTag", laid_concord_api_ErrTag), ("concord/api.ErrSum", laid_concord_api_ErrSum), ("concord/api.ErrRange", laid_concord_api_ErrRange), ("concord/api.ErrSize", laid_concord_api_ErrSize), ("concord/api.ErrCorrupt", laid_concord_api_ErrCorrupt), ("concord/api.ErrSchema", laid_concord_api_ErrSchema), ("concord/api.ErrField", laid_concord_api_ErrField), ("concord/api.ErrValue", laid_concord_api_ErrValue), ("concord/api.ErrPattern", laid_concord_api_ErrPattern), ("concord/api.ErrStates", laid_concord_api_ErrStates), ("concord/api.ErrSyntax", laid_concord_api_ErrSyntax), ("concord/api.ErrDeep", laid_concord_api_ErrDeep), ("concord/api.ErrNode", laid_concord_api_ErrNode), ("concord/api.ErrTerms", laid_concord_api_ErrTerms), ("concord/api.ErrScore", laid_concord_api_ErrScore), ("concord/api.ErrCode", laid_concord_api_ErrCode), ("concord/api.ErrFuel", laid_concord_api_ErrFuel), ("concord/api.ErrDoc", laid_concord_api_ErrDoc), ("concord/api.ErrCommand", laid_concord_api_ErrCommand), ("concord/lexer.classes", laid_concord_lexer_classes)], narrowed := true }
def SyntaxParsesUptoSaid : Prop := syntaxParsesUptoRow.holds Tryd.pinned (OpenSpec.upto syntaxParsesSpec)

/-- 'concordlaw14.SyntaxAgree', WHERE WHAT IT READS IS OF BULK AT MOST 1048576: true; the input reads as it did. -/
def syntaxAgreeUptoRow : OpenClaim := { program := "ytcomdkejpaoneaadoor", sum := "fbd7375c6f417f8f94ef3bb747534cabdd4e1951332a7ee2b955783ef2d64fb5", func := "concord/concordlaw14.SyntaxAgree", spec := "syntaxAgree", unfollowed := true, recurses := true, named := ["concord/api.ErrSyntax", "concord/lexer.classes", "concord/api.ErrDeep", "concord/api.ErrShort", "concord/api.ErrVarint", "concord/api.ErrLimit", "concord/api.ErrOrder", "concord/api.ErrTail", "concord/api.ErrTag", "concord/api.ErrSum", "concord/api.ErrRange", "concord/api.ErrSize", "concord/api.ErrCorrupt", "concord/api.ErrSchema", "concord/api.ErrField", "concord/api.ErrValue", "concord/api.ErrPattern", "concord/api.ErrStates", "concord/api.ErrNode", "concord/api.ErrTerms", "concord/api.ErrScore", "concord/api.ErrCode", "concord/api.ErrFuel", "concord/api.ErrDoc", "concord/api.ErrCommand"], apart := false, laid := [("concord/api.ErrShort", laid_concord_api_ErrShort), ("concord/api.ErrVarint", laid_concord_api_ErrVarint), ("concord/api.ErrLimit", laid_concord_api_ErrLimit), ("concord/api.ErrOrder", laid_concord_api_ErrOrder), ("concord/api.ErrTail", laid_concord_api_ErrTail), ("concord/api.ErrTag", laid_concord_api_ErrTag), ("concord/api.ErrSum", laid_concord_api_ErrSum), ("concord/api.ErrRange", laid_concord_api_ErrRange), ("concord/api.ErrSize", laid_concord_api_ErrSize), ("concord/api.ErrCorrupt", laid_concord_api_ErrCorrupt), ("concord/api.ErrSchema", laid_concord_api_ErrSchema), ("concord/api.ErrField", laid_concord_api_ErrField), ("concord/api.ErrValue", laid_concord_api_ErrValue), ("concord/api.ErrPattern", laid_concord_api_ErrPattern), ("concord/api.ErrStates", laid_concord_api_ErrStates), ("concord/api.ErrSyntax", laid_concord_api_ErrSyntax), ("concord/api.ErrDeep", laid_concord_api_ErrDeep), ("concord/api.ErrNode", laid_concord_api_ErrNode), ("concord/api.ErrTerms", laid_concord_api_ErrTerms), ("concord/api.ErrScore", laid_concord_api_ErrScore), ("concord/api.ErrCode", laid_concord_api_ErrCode), ("concord/api.ErrFuel", laid_concord_api_ErrFuel), ("concord/api.ErrDoc", laid_concord_api_ErrDoc), ("concord/api.ErrCommand", laid_concord_api_ErrCommand), ("concord/lexer.classes", laid_concord_lexer_classes)], narrowed := true }
def SyntaxAgreeUptoSaid : Prop := syntaxAgreeUptoRow.holds Tryd.pinned (OpenSpec.upto syntaxAgreeSpec)

/-- 'concordlaw14.SyntaxOneWay', WHERE WHAT IT READS IS OF BULK AT MOST 1048576: true; the input reads as it did. -/
def syntaxOneWayUptoRow : OpenClaim := { program := "ytcomdkejpaoneaadoor", sum := "fbd7375c6f417f8f94ef3bb747534cabdd4e1951332a7ee2b955783ef2d64fb5", func := "concord/concordlaw14.SyntaxOneWay", spec := "syntaxOneWay", unfollowed := true, recurses := true, named := ["concord/api.ErrSyntax", "concord/lexer.classes", "concord/api.ErrDeep"], apart := false, laid := [("concord/api.ErrSyntax", laid_concord_api_ErrSyntax), ("concord/api.ErrDeep", laid_concord_api_ErrDeep), ("concord/lexer.classes", laid_concord_lexer_classes)], narrowed := true }
def SyntaxOneWayUptoSaid : Prop := syntaxOneWayUptoRow.holds Tryd.pinned (OpenSpec.upto syntaxOneWaySpec)

/-- 'concordlaw14.SyntaxBrackets', WHERE WHAT IT READS IS OF BULK AT MOST 1048576: true; the input reads as it did. -/
def syntaxBracketsUptoRow : OpenClaim := { program := "ytcomdkejpaoneaadoor", sum := "fbd7375c6f417f8f94ef3bb747534cabdd4e1951332a7ee2b955783ef2d64fb5", func := "concord/concordlaw14.SyntaxBrackets", spec := "syntaxBrackets", unfollowed := true, recurses := true, named := ["concord/api.ErrSyntax", "concord/lexer.classes", "concord/api.ErrDeep"], apart := false, laid := [("concord/api.ErrSyntax", laid_concord_api_ErrSyntax), ("concord/api.ErrDeep", laid_concord_api_ErrDeep), ("concord/lexer.classes", laid_concord_lexer_classes)], narrowed := true }
def SyntaxBracketsUptoSaid : Prop := syntaxBracketsUptoRow.holds Tryd.pinned (OpenSpec.upto syntaxBracketsSpec)

/-- 'concordlaw14.SyntaxBlanks', WHERE WHAT IT READS IS OF BULK AT MOST 1048576: true; the input reads as it did. -/
def syntaxBlanksUptoRow : OpenClaim := { program := "ytcomdkejpaoneaadoor", sum := "fbd7375c6f417f8f94ef3bb747534cabdd4e1951332a7ee2b955783ef2d64fb5", func := "concord/concordlaw14.SyntaxBlanks", spec := "syntaxBlanks", unfollowed := true, recurses := true, named := ["concord/api.ErrSyntax", "concord/lexer.classes", "concord/api.ErrDeep", "concord/api.ErrShort", "concord/api.ErrVarint", "concord/api.ErrLimit", "concord/api.ErrOrder", "concord/api.ErrTail", "concord/api.ErrTag", "concord/api.ErrSum", "concord/api.ErrRange", "concord/api.ErrSize", "concord/api.ErrCorrupt", "concord/api.ErrSchema", "concord/api.ErrField", "concord/api.ErrValue", "concord/api.ErrPattern", "concord/api.ErrStates", "concord/api.ErrNode", "concord/api.ErrTerms", "concord/api.ErrScore", "concord/api.ErrCode", "concord/api.ErrFuel", "concord/api.ErrDoc", "concord/api.ErrCommand"], apart := false, laid := [("concord/api.ErrShort", laid_concord_api_ErrShort), ("concord/api.ErrVarint", laid_concord_api_ErrVarint), ("concord/api.ErrLimit", laid_concord_api_ErrLimit), ("concord/api.ErrOrder", laid_concord_api_ErrOrder), ("concord/api.ErrTail", laid_concord_api_ErrTail), ("concord/api.ErrTag", laid_concord_api_ErrTag), ("concord/api.ErrSum", laid_concord_api_ErrSum), ("concord/api.ErrRange", laid_concord_api_ErrRange), ("concord/api.ErrSize", laid_concord_api_ErrSize), ("concord/api.ErrCorrupt", laid_concord_api_ErrCorrupt), ("concord/api.ErrSchema", laid_concord_api_ErrSchema), ("concord/api.ErrField", laid_concord_api_ErrField), ("concord/api.ErrValue", laid_concord_api_ErrValue), ("concord/api.ErrPattern", laid_concord_api_ErrPattern), ("concord/api.ErrStates", laid_concord_api_ErrStates), ("concord/api.ErrSyntax", laid_concord_api_ErrSyntax), ("concord/api.ErrDeep", laid_concord_api_ErrDeep), ("concord/api.ErrNode", laid_concord_api_ErrNode), ("concord/api.ErrTerms", laid_concord_api_ErrTerms), ("concord/api.ErrScore", laid_concord_api_ErrScore), ("concord/api.ErrCode", laid_concord_api_ErrCode), ("concord/api.ErrFuel", laid_concord_api_ErrFuel), ("concord/api.ErrDoc", laid_concord_api_ErrDoc), ("concord/api.ErrCommand", laid_concord_api_ErrCommand), ("concord/lexer.classes", laid_concord_lexer_classes)], narrowed := true }
def SyntaxBlanksUptoSaid : Prop := syntaxBlanksUptoRow.holds Tryd.pinned (OpenSpec.upto syntaxBlanksSpec)

/-- 'concordlaw14.SyntaxJoins', WHERE WHAT IT READS IS OF BULK AT MOST 1048576: true; the input reads as it did. -/
def syntaxJoinsUptoRow : OpenClaim := { program := "ytcomdkejpaoneaadoor", sum := "fbd7375c6f417f8f94ef3bb747534cabdd4e1951332a7ee2b955783ef2d64fb5", func := "concord/concordlaw14.SyntaxJoins", spec := "syntaxJoins", unfollowed := true, recurses := true, named := ["concord/api.ErrSyntax", "concord/lexer.classes", "concord/api.ErrDeep"], apart := false, laid := [("concord/api.ErrSyntax", laid_concord_api_ErrSyntax), ("concord/api.ErrDeep", laid_concord_api_ErrDeep), ("concord/lexer.classes", laid_concord_lexer_classes)], narrowed := true }
def SyntaxJoinsUptoSaid : Prop := syntaxJoinsUptoRow.holds Tryd.pinned (OpenSpec.upto syntaxJoinsSpec)

/-- 'concordlaw14.SyntaxLeaves', WHERE WHAT IT READS IS OF BULK AT MOST 1048576: true; the input reads as it did. -/
def syntaxLeavesUptoRow : OpenClaim := { program := "ytcomdkejpaoneaadoor", sum := "fbd7375c6f417f8f94ef3bb747534cabdd4e1951332a7ee2b955783ef2d64fb5", func := "concord/concordlaw14.SyntaxLeaves", spec := "syntaxLeaves", unfollowed := true, recurses := true, named := ["concord/api.ErrSyntax", "concord/lexer.classes", "concord/api.ErrDeep"], apart := false, laid := [("concord/api.ErrSyntax", laid_concord_api_ErrSyntax), ("concord/api.ErrDeep", laid_concord_api_ErrDeep), ("concord/lexer.classes", laid_concord_lexer_classes)], narrowed := true }
def SyntaxLeavesUptoSaid : Prop := syntaxLeavesUptoRow.holds Tryd.pinned (OpenSpec.upto syntaxLeavesSpec)

/-- 'concordlaw14.SyntaxEnds', WHERE WHAT IT READS IS OF BULK AT MOST 1048576: true; the input reads as it did. -/
def syntaxEndsUptoRow : OpenClaim := { program := "ytcomdkejpaoneaadoor", sum := "fbd7375c6f417f8f94ef3bb747534cabdd4e1951332a7ee2b955783ef2d64fb5", func := "concord/concordlaw14.SyntaxEnds", spec := "syntaxEnds", unfollowed := true, recurses := true, named := ["concord/api.ErrSyntax", "concord/lexer.classes", "concord/api.ErrDeep"], apart := false, laid := [("concord/api.ErrSyntax", laid_concord_api_ErrSyntax), ("concord/api.ErrDeep", laid_concord_api_ErrDeep), ("concord/lexer.classes", laid_concord_lexer_classes)], narrowed := true }
def SyntaxEndsUptoSaid : Prop := syntaxEndsUptoRow.holds Tryd.pinned (OpenSpec.upto syntaxEndsSpec)

/-- 'concordlaw14.SyntaxFollows', WHERE WHAT IT READS IS OF BULK AT MOST 1048576: true; the input reads as it did. -/
def syntaxFollowsUptoRow : OpenClaim := { program := "ytcomdkejpaoneaadoor", sum := "fbd7375c6f417f8f94ef3bb747534cabdd4e1951332a7ee2b955783ef2d64fb5", func := "concord/concordlaw14.SyntaxFollows", spec := "syntaxFollows", unfollowed := true, recurses := true, named := ["concord/api.ErrSyntax", "concord/lexer.classes", "concord/api.ErrDeep"], apart := false, laid := [("concord/api.ErrSyntax", laid_concord_api_ErrSyntax), ("concord/api.ErrDeep", laid_concord_api_ErrDeep), ("concord/lexer.classes", laid_concord_lexer_classes)], narrowed := true }
def SyntaxFollowsUptoSaid : Prop := syntaxFollowsUptoRow.holds Tryd.pinned (OpenSpec.upto syntaxFollowsSpec)

/-- 'concordlaw14.SyntaxWays', WHERE WHAT IT READS IS OF BULK AT MOST 1048576: true; the input reads as it did. -/
def syntaxWaysUptoRow : OpenClaim := { program := "ytcomdkejpaoneaadoor", sum := "fbd7375c6f417f8f94ef3bb747534cabdd4e1951332a7ee2b955783ef2d64fb5", func := "concord/concordlaw14.SyntaxWays", spec := "syntaxWays", unfollowed := true, recurses := true, named := ["concord/api.ErrSyntax", "concord/lexer.classes", "concord/api.ErrDeep"], apart := false, laid := [("concord/api.ErrSyntax", laid_concord_api_ErrSyntax), ("concord/api.ErrDeep", laid_concord_api_ErrDeep), ("concord/lexer.classes", laid_concord_lexer_classes)], narrowed := true }
def SyntaxWaysUptoSaid : Prop := syntaxWaysUptoRow.holds Tryd.pinned (OpenSpec.upto syntaxWaysSpec)

end Rows
end Go.Proofs.YtcomdkejpaoneaaDoor
