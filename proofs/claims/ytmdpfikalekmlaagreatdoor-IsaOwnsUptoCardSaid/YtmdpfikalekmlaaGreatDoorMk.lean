/- concordmem's marks. -/
import Derived.Test.YtmdpfikalekmlaaGreatDoorOn
import Derived.Test.YtmdpfikalekmlaaGreatDoorErrs
namespace Go.Proofs.YtmdpfikalekmlaaGreatDoor
open Go.RowKit
set_option maxRecDepth 100000
set_option linter.unusedSimpArgs false
set_option linter.unusedVariables false

def markA (i j : Int) : Int := IntKind.u64.wrap (IntKind.u64.wrap (IntKind.u64.wrap (wrap64 (i + 1)) * 11400714819323198485) + IntKind.u64.wrap (IntKind.u64.wrap (wrap64 (j + 1)) * 13787848793156543929))
def markF (i j : Int) : Int := wrap64 (wrap64 (IntKind.u64.wrap (bits BinOp.xor IntKind.u64 (markA i j) (markA i j / 536870912) * 10723151780598845931) / 8589934592) + 1)
theorem Mark_any (i j : Int) (w : World) : Calls Tryz.prog 30 #[.int .i64 i, .int .i64 j] w fun e w' => e = .returned (.int .i64 (markF i j)) ∧ w' = w := by
  go_enter Tryz.func30, Tryz.ntmps30
  go_wp2
  go_ret
  exact ⟨rfl, rfl⟩
/-- The marks of list i: n of them. -/
def marks (i : Nat) (n : Nat) : List Int := (List.range n).map fun (j : Nat) => markF (i : Int) (j : Int)
theorem marks_len (i n : Nat) : (marks i n).length = n := by simp [marks]
theorem marks_get (i n j : Nat) (h : j < n) : (marks i n)[j]? = some (markF (i : Int) (j : Int)) := by simp [marks, h]
theorem marks_succ (i n : Nat) : marks i (n + 1) = marks i n ++ [markF (i : Int) (n : Int)] := by simp [marks, List.range_succ]
end Go.Proofs.YtmdpfikalekmlaaGreatDoor
