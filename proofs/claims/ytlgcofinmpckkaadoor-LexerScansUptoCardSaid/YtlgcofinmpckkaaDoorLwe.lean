/- What the row's list of variables gives the walks: the table of classes. -/
import Derived.Test.YtlgcofinmpckkaaDoorRows
import Derived.Test.YtlgcofinmpckkaaDoorLwr
import Derived.Lib.LaidTab
import Derived.MakeChecks
namespace Go.Proofs.YtlgcofinmpckkaaDoor
open Go.RowKit
set_option maxRecDepth 100000

def clsLit : List Int := [0, 0, 0, 0, 0, 0, 0, 0, 0, 1, 1, 0, 0, 1, 0, 0, 0, 0, 0, 0, 0, 0, 0, 0, 0, 0, 0, 0, 0, 0, 0, 0, 1, 0, 2, 0, 0, 0, 0, 0, 2, 2, 3, 0, 0, 0, 0, 0, 0, 0, 0, 0, 0, 0, 0, 0, 0, 0, 2, 0, 0, 0, 0, 3, 2, 0, 0, 0, 0, 0, 0, 0, 0, 0, 0, 0, 0, 0, 0, 0, 0, 0, 0, 0, 0, 0, 0, 0, 0, 0, 0, 2, 4, 2, 2, 0, 0, 0, 0, 0, 0, 0, 0, 0, 0, 0, 0, 0, 0, 0, 0, 0, 0, 0, 0, 0, 0, 0, 0, 0, 0, 0, 0, 2, 2, 2, 2, 0]
theorem clsLit_eq : clsLit = clsTab := by decide
theorem gTab : Tryd.prog.globalNamed "concord/lexer.classes" = some 16 := by kernel_rfl
theorem gTabType : (Tryd.prog.globals[16]?).map (·.type) = some 58 := by kernel_rfl
theorem cellsTab : Tryd.prog.cellsOf 58 = 128 := by kernel_rfl
theorem cellsByte : Tryd.prog.cellsOf 5 = 1 := by kernel_rfl
theorem size_of_cell {w : World} {b o : Nat} {v : Value} (h : w.cell? ⟨b, o, none⟩ = some v) : b < w.heap.size := World.block_lt_of_cell? w ⟨b, o, none⟩ h

theorem cls_of_head {W : World} {rest : List (String × DataW Unit)} (h : laidMet Tryd.prog (("concord/lexer.classes", Rows.laid_concord_lexer_classes) :: rest) W) : ClsEnv W := by
  have ht : Lib.TabIs Tryd.prog W "concord/lexer.classes" .u8 clsLit := Lib.tabIs_of_head (rest := rest) gTab gTabType Tryd.underlying58 Tryd.underlying5 cellsByte cellsTab h
  have hc : ∀ j, j < 128 → W.cell? ⟨16, j, none⟩ = some (.int .u8 (clsTab.getD j 0)) := fun j hj => by
    rw [← clsLit_eq]; exact ht.cell gTab j (by rw [show clsLit.length = 128 from by decide]; exact hj)
  exact ⟨hc, size_of_cell (hc 0 (by decide))⟩
theorem lexerWrites_env {W : World} (h : laidMetH Tryd.prog Rows.lexerWritesUptoRow.laid W) : ClsEnv W := cls_of_head (rest := []) h
theorem lexerWrites_walk (a0 : ByteArray) (w0 : a0.size ≤ 1048576) (w : World) (hE : ClsEnv w) :
    Calls Tryd.prog 3 #[.string a0] w fun e w' => e = .returned (.bool true) ∧ Below w.heap.size w w' :=
  writes_walk a0 w (by omega) hE
end Go.Proofs.YtlgcofinmpckkaaDoor
