/- Merged for a claim by shake.py: Zk -/
import Derived.Test.YtcomdkejpaoneaaDoorKe29
import Derived.Test.YtcomdkejpaoneaaDoorKe30
section
namespace Go.Proofs.YtcomdkejpaoneaaDoor
open Go.RowKit
set_option maxRecDepth 100000
theorem syntaxLeaves_env {W : World} (h : laidMetH Tryd.prog Rows.syntaxLeavesUptoRow.laid W) : ∃ ea, SynEnv W ea ∧ ClsEnv W := by
  have h0 : laidMet Tryd.prog Rows.syntaxLeavesUptoRow.laid W := h
  obtain ⟨ea, h1⟩ := synEnv_of h0 (by rfl)
  have h3 := h0.filter (fun x => x.1 == "concord/lexer.classes")
  exact ⟨ea, h1, cls_of_head (rest := []) h3⟩
theorem syntaxLeaves_walk (w : World) (a0 a1 : ByteArray) (a2 : Int) (w0 : a0.size ≤ 1048576) (w1 : a1.size ≤ 1048576) (hE : ∃ ea, SynEnv w ea ∧ ClsEnv w) :
    Calls Tryd.prog 10 #[.string a0, .string a1, .int .i64 a2] w fun e w' => e = .returned (.bool true) ∧ Below w.heap.size w w' := by
  obtain ⟨ea, hE, hc⟩ := hE
  rw [ba_size] at w0 w1
  exact leaves_walk a0.data.toList a1.data.toList a2 w ea w0 w1 hE hc
end Go.Proofs.YtcomdkejpaoneaaDoor
end
