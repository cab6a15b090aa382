/- Layer 20: the variables that it reads, as they are laid. -/
import Derived.Test.YtmdpfikalekmlaaGreatDoorRu
import Derived.Test.YtmdpfikalekmlaaGreatDoorTb
import Derived.Test.YtmdpfikalekmlaaGreatDoorFu
namespace Go.Proofs.YtmdpfikalekmlaaGreatDoor
open Go.RowKit
set_option maxRecDepth 100000
set_option linter.unusedSimpArgs false
set_option linter.unusedVariables false

/-- The variables that layer 20 reads. -/
def IsaEnv (w : World) : Prop := ∃ ea, ErrEnv w ea ∧ TabEnv w ∧ Pow10 w
theorem isaTab_of {W : World} {l : List (String × DataW Unit)} (h : laidMet Tryz.prog l W) (e : l.filter (fun x => x.1 == "concord/isa.table") = [("concord/isa.table", Rows.laid_concord_isa_table)]) : TabEnv W := by
  have := h.filter (fun x => x.1 == "concord/isa.table")
  rw [e] at this
  exact tab_of_head this
theorem pow10_of {W : World} {l : List (String × DataW Unit)} (h : laidMet Tryz.prog l W) (e : l.filter (fun x => x.1 == "internal/strconv.uint64pow10") = [("internal/strconv.uint64pow10", Lib.tabData .u64 Lib.pow10Tab)]) : Pow10 W := by
  have := h.filter (fun x => x.1 == "internal/strconv.uint64pow10")
  rw [e] at this
  exact pow10_of_head this
/-- The variables that the laws without errors' numbers read. -/
def IsaEnvF (w : World) : Prop := ∃ ea, ErrFew w ea ∧ TabEnv w ∧ Pow10 w
def fewRows : List (String × List UInt8) := [("concord/api.ErrShort", [99, 111, 110, 99, 111, 114, 100, 58, 32, 116, 111, 111, 32, 115, 104, 111, 114, 116]), ("concord/api.ErrVarint", [99, 111, 110, 99, 111, 114, 100, 58, 32, 118, 97, 114, 105, 110, 116]), ("concord/api.ErrCode", [99, 111, 110, 99, 111, 114, 100, 58, 32, 99, 111, 100, 101])]
theorem errFew_of {W : World} {l : List (String × DataW Unit)} (h : laidMet Tryz.prog l W) (e : l.filter (fun x => (fewRows.map (·.1)).contains x.1) = fewRows.map fun x => (x.1, errRow x.2)) : ∃ ea, ErrFew W ea := by
  have := h.filter (fun x => (fewRows.map (·.1)).contains x.1)
  rw [e] at this
  obtain ⟨ps, h1, h2, h3⟩ := this
  obtain ⟨ea, g1, -, -, -⟩ := errsAt_of fewRows [1, 2, 16] ps (by kernel_rfl) (by
    have h : [1, 2, 16].all (fun g => (Tryz.prog.globals[g]?).map (·.type) == some 30) = true := by kernel_rfl
    intro g hg
    exact beq_iff_eq.1 (List.all_eq_true.1 h g hg)) h1 h2 h3
  match ea, g1 with
  | [a0, a1, a2], ⟨c0, _, c1, _, c2, _⟩ => exact ⟨a0 :: a1 :: (List.replicate 18 a0 ++ [a2]), c0, c1, c2⟩
end Go.Proofs.YtmdpfikalekmlaaGreatDoor
