/- Layer 1: the Reader's Done. -/
import Derived.Test.YtdkalcecmdadeaaDoorRe
namespace Go.Proofs.YtdkalcecmdadeaaDoor
open Go.RowKit
set_option maxRecDepth 100000
set_option maxHeartbeats 1000000
set_option linter.unusedSimpArgs false
set_option linter.unusedVariables false

theorem done_any (g : Nat) (m : List UInt8) (k : Nat) (w : World) (ea : List Addr) (h : RdAt w g m k) (hE : ErrLow w g ea) :
    Calls Tryd.prog 53 #[.pointer (some ⟨g, 0, none⟩)] w fun e w' => e = .returned (if k < m.length then errI ea 4 else .nilIface) ∧ Frm g w w' ∧ RdAt w' g m k := by
  have H := Lib.hid h
  have cE : w.cell? ⟨5, 0, none⟩ = some (errI ea 4) := hE.cell 4 (by decide)
  obtain ⟨A, cap, h1, h2, h3, h4⟩ := h
  have c0 : w.cell? ⟨g, 0, none⟩ = some (.int .i64 (k : Int)) := h1.cell 0
  have c1 : w.cell? ⟨g, 1, none⟩ = some (.int .i64 (m.length : Int)) := h1.cell 1
  clear h1 h2 hE
  by_cases hk : k < m.length
  · rw [if_pos hk]
    go_enter Tryd.func53, Tryd.ntmps53
    go_wp2
    go_region
    go_wp2
    go_ret
    exact ⟨rfl, (Frm.refl g w).drew, H.out.drew⟩
  · rw [if_neg hk]
    go_enter Tryd.func53, Tryd.ntmps53
    go_wp2
    go_region
    go_wp2
    go_ret
    exact ⟨rfl, (Frm.refl g w).drew, H.out.drew⟩
end Go.Proofs.YtdkalcecmdadeaaDoor
