/-
  No cell of these rows narrows 'for every input' (looked for: loops, veiled, ifaces, maps, wideKeys, modest, calm, conditions, laid).
  DERIVED. THE GIVEN ROWS OF THIS SEAT. 3 by the template 'for every input the law returns true; each argument reads behind the call as it read before'; 0 by the template 'total and deterministic' (their statements: YtdkalcecmdadeaaTotals.lean).
  GIVEN WITH THE SEED: the statements are not yours to turn. If you find one false, say at which input.
  Laid BY PROGRAM, IN A SANDBOX (cutbox-rows.mjs): the forced cells as the released guide's own fill.sh prints them over the translation 750d2e68b4ea287d… (all of the seat's roots in one cut). By AI agents, Wed Nov 11 2026. No macro, syntax, notation, axiom, sorry.
-/
import Derived.Test.YtdkalcecmdadeaaChecked
import GoSem.Claim
import GoSem.ClaimJoined
import GoSem.ClaimMapViews
import Derived.JoinedTies
import Derived.KernelRfl
namespace Go.Proofs.Ytdkalcecmdadeaa
/- THE CELL 'sum', in the pinned program and in every row, IS THE sha256 OF THE DUMP (.gsa) THAT YtdkalcecmdadeaaProg.lean LOADS. Nothing in Lean hashes anything: it is a label: what it is worth is what the hold of that sum in a sandbox is worth. -/
noncomputable def Try.pinned : Pinned := { name := "ytdkalcecmdadeaa", sum := "750d2e68b4ea287d0d0d8b06d19a470bc1bb0dbc5adbd12e2da43fc5e00efe1c", checked := Try.checked }
namespace Rows
def none {H : Type} : Left H := { results := [], args := [] }

/-- 'concordlaw04.SchemaOrder': WHATEVER THE INPUT: true; the input reads as it did. -/
def schemaOrderSpec : ChangeSpec := { name := "schemaOrder", fn := fun _ => fun
  | [d1, d2, d3] => { results := [.lit (.bool true)], args := [d1, d2, d3] }
  | _ => none }
def schemaOrderRow : OpenClaim := { program := "ytdkalcecmdadeaa", sum := "750d2e68b4ea287d0d0d8b06d19a470bc1bb0dbc5adbd12e2da43fc5e00efe1c", func := "concord/concordlaw04.SchemaOrder", spec := "schemaOrder", apart := false }
def SchemaOrderSaid : Prop := schemaOrderRow.holds Try.pinned (OpenSpec.ofChange schemaOrderSpec)

/-- ITS FALSE NEIGHBOUR: 'it returns false'. Refute it at one input. -/
def schemaOrderWrong : ChangeSpec := { name := "schemaOrder", fn := fun _ => fun
  | [d1, d2, d3] => { results := [.lit (.bool false)], args := [d1, d2, d3] }
  | _ => none }
def SchemaOrderWrongFalsely : Prop := schemaOrderRow.holds Try.pinned (OpenSpec.ofChange schemaOrderWrong)

/-- 'concordlaw04.SchemaDecimals': WHATEVER THE INPUT: true; the input reads as it did. -/
def schemaDecimalsSpec : ChangeSpec := { name := "schemaDecimals", fn := fun _ => fun
  | [d1, d2, d3, d4] => { results := [.lit (.bool true)], args := [d1, d2, d3, d4] }
  | _ => none }
def schemaDecimalsRow : OpenClaim := { program := "ytdkalcecmdadeaa", sum := "750d2e68b4ea287d0d0d8b06d19a470bc1bb0dbc5adbd12e2da43fc5e00efe1c", func := "concord/concordlaw04.SchemaDecimals", spec := "schemaDecimals", apart := false }
def SchemaDecimalsSaid : Prop := schemaDecimalsRow.holds Try.pinned (OpenSpec.ofChange schemaDecimalsSpec)

/-- ITS FALSE NEIGHBOUR: 'it returns false'. Refute it at one input. -/
def schemaDecimalsWrong : ChangeSpec := { name := "schemaDecimals", fn := fun _ => fun
  | [d1, d2, d3, d4] => { results := [.lit (.bool false)], args := [d1, d2, d3, d4] }
  | _ => none }
def SchemaDecimalsWrongFalsely : Prop := schemaDecimalsRow.holds Try.pinned (OpenSpec.ofChange schemaDecimalsWrong)

/-- 'concordlaw04.SchemaNumbers': WHATEVER THE INPUT: true; the input reads as it did. -/
def schemaNumbersSpec : ChangeSpec := { name := "schemaNumbers", fn := fun _ => fun
  | [d1, d2] => { results := [.lit (.bool true)], args := [d1, d2] }
  | _ => none }
def schemaNumbersRow : OpenClaim := { program := "ytdkalcecmdadeaa", sum := "750d2e68b4ea287d0d0d8b06d19a470bc1bb0dbc5adbd12e2da43fc5e00efe1c", func := "concord/concordlaw04.SchemaNumbers", spec := "schemaNumbers", apart := false }
def SchemaNumbersSaid : Prop := schemaNumbersRow.holds Try.pinned (OpenSpec.ofChange schemaNumbersSpec)

/-- ITS FALSE NEIGHBOUR: 'it returns false'. Refute it at one input. -/
def schemaNumbersWrong : ChangeSpec := { name := "schemaNumbers", fn := fun _ => fun
  | [d1, d2] => { results := [.lit (.bool false)], args := [d1, d2] }
  | _ => none }
def SchemaNumbersWrongFalsely : Prop := schemaNumbersRow.holds Try.pinned (OpenSpec.ofChange schemaNumbersWrong)

/- THE SECOND FORM. 'bulk': how many values and letters a reading holds, each counted each time it is reached (what is shared counts as often as it is met; a slice's spare places count too). A statement '..UptoSaid' is the law's where the arguments, and the package variables that the reading takes, are together of bulk at most 1048576: NARROWER than '..Said'. Prove '..Said' where nothing that the law and all that it calls make is longer than what came in: it says more and counts as full. Else prove '..UptoSaid'. A law counts once. -/
mutual
def uptoBulk {H : Type} : DataW H → Nat
  | .lit (.string bytes) => bytes.length + 1
  | .lit _ => 1
  | .nil => 1
  | .ptr d => uptoBulk d + 1
  | .slice elems spare => uptoBulkAll elems + uptoBulkAll spare + 1
  | .agg parts => uptoBulkAll parts + 1
  | .iface _ d => uptoBulk d + 1
  | .map entries => uptoBulkEntries entries + 1
  | .held _ => 1
def uptoBulkAll {H : Type} : List (DataW H) → Nat
  | [] => 0
  | d :: r => uptoBulk d + uptoBulkAll r
def uptoBulkEntries {H : Type} : List (Lit × DataW H) → Nat
  | [] => 0
  | x :: r => uptoBulkEntry x + uptoBulkEntries r
def uptoBulkEntry {H : Type} : Lit × DataW H → Nat
  | (.string bytes, d) => bytes.length + uptoBulk d + 1
  | (_, d) => uptoBulk d + 1
 end
def uptoSmall : (H : Type) → List (DataW H) → Bool := fun _ ds => decide (uptoBulkAll ds ≤ 1048576)
def OpenSpec.upto (s : _root_.Go.ChangeSpec) : _root_.Go.OpenSpec := { _root_.Go.OpenSpec.ofChange s with cond := some uptoSmall }

/-- 'concordlaw04.SchemaOrder', WHERE WHAT IT READS IS OF BULK AT MOST 1048576: true; the input reads as it did. -/
def schemaOrderUptoRow : OpenClaim := { program := "ytdkalcecmdadeaa", sum := "750d2e68b4ea287d0d0d8b06d19a470bc1bb0dbc5adbd12e2da43fc5e00efe1c", func := "concord/concordlaw04.SchemaOrder", spec := "schemaOrder", apart := false, narrowed := true }
def SchemaOrderUptoSaid : Prop := schemaOrderUptoRow.holds Try.pinned (OpenSpec.upto schemaOrderSpec)

/-- 'concordlaw04.SchemaDecimals', WHERE WHAT IT READS IS OF BULK AT MOST 1048576: true; the input reads as it did. -/
def schemaDecimalsUptoRow : OpenClaim := { program := "ytdkalcecmdadeaa", sum := "750d2e68b4ea287d0d0d8b06d19a470bc1bb0dbc5adbd12e2da43fc5e00efe1c", func := "concord/concordlaw04.SchemaDecimals", spec := "schemaDecimals", apart := false, narrowed := true }
def SchemaDecimalsUptoSaid : Prop := schemaDecimalsUptoRow.holds Try.pinned (OpenSpec.upto schemaDecimalsSpec)

/-- 'concordlaw04.SchemaNumbers', WHERE WHAT IT READS IS OF BULK AT MOST 1048576: true; the input reads as it did. -/
def schemaNumbersUptoRow : OpenClaim := { program := "ytdkalcecmdadeaa", sum := "750d2e68b4ea287d0d0d8b06d19a470bc1bb0dbc5adbd12e2da43fc5e00efe1c", func := "concord/concordlaw04.SchemaNumbers", spec := "schemaNumbers", apart := false, narrowed := true }
def SchemaNumbersUptoSaid : Prop := schemaNumbersUptoRow.holds Try.pinned (OpenSpec.upto schemaNumbersSpec)

end Rows
end Go.Proofs.Ytdkalcecmdadeaa
