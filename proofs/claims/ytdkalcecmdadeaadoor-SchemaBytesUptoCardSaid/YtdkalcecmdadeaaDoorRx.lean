/- Layer 1, the reference: Text. -/
import Derived.Test.YtdkalcecmdadeaaDoorRw
namespace Go.Proofs.YtdkalcecmdadeaaDoor
open Go.RowKit
set_option maxRecDepth 100000
set_option maxHeartbeats 1000000
set_option linter.unusedSimpArgs false
set_option linter.unusedVariables false

theorem rftext_any (s : ByteArray) (w : World) (hs : s.size ≤ 1000000000) :
    Calls Tryd.prog 41 #[.string s] w fun e w' => ∃ v, e = .returned v ∧ OwnB w' w.heap.size v (txL s) ∧ Below w.heap.size w w' := by
  have hu := uvL_len64 (n := s.size) (by omega)
  go_enter Tryd.func41, Tryd.ntmps41
  go_wp2_with fail
  refine (rfuvarint_any s.size w (by omega)).mono ?_
  rintro e w1 ⟨v, rfl, ho, hb⟩
  obtain ⟨A, nn, cp, rfl⟩ := ownB_any ho
  have HO := Lib.hid ho
  have HB := Lib.hid hb
  have hsz := hb.size
  clear ho hb
  go_wp2_with (at_builtin; refine OwnB.appendStr HO.out s rfl _ _ rfl rfl rfl hsz (by omega) ?_)
  intro v' w' h2' h3' hk'
  have H2 := Lib.hid h2'
  have H3 := Lib.hid h3'
  clear h2' h3' hk'
  go_wp2
  go_ret
  exact ⟨v', rfl, H2.out, HB.out.trans H3.out⟩
end Go.Proofs.YtdkalcecmdadeaaDoor
