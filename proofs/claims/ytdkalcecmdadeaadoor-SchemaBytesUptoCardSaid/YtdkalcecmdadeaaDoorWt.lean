/- Layer 1: the Writer's Text. -/
import Derived.Test.YtdkalcecmdadeaaDoorWr
namespace Go.Proofs.YtdkalcecmdadeaaDoor
open Go.RowKit
set_option maxRecDepth 100000
set_option maxHeartbeats 1000000
set_option linter.unusedSimpArgs false
set_option linter.unusedVariables false

theorem wtext_any (s : ByteArray) (g : Nat) (l : List UInt8) (w : World) (hW : WrAt w g l) (hs : s.size ≤ 1000000000) (hl : l.length ≤ 10000000000) :
    Calls Tryd.prog 37 #[.pointer (some ⟨g, 0, none⟩), .string s] w fun e w' => e = .returned (.tuple #[]) ∧ WrAt w' g (l ++ txL s) ∧ Below g w w' ∧ KeptT g w w' := by
  have HW := Lib.hid hW; clear hW
  have hu := uvL_len64 (n := s.size) (by omega)
  go_enter Tryd.func37, Tryd.ntmps37
  go_wp2_with fail
  refine (wuvarint_any s.size g l w HW.out (by omega) (by omega)).mono ?_
  rintro e w1 ⟨rfl, ⟨v, h1, h2⟩, hb1, hk1⟩
  obtain ⟨A, nn, cp, rfl⟩ := ownB_any h2
  have hlt := h1.lt
  have hc : w1.cell? ⟨g, 0, none⟩ = some (.slice A nn cp) := h1.cell 0
  have hf := h1.frozen 0
  have hln : (l ++ uvL s.size).length + s.size ≤ 140737488355328 := by rw [List.length_append]; omega
  have H1 := Lib.hid h1
  have H2 := Lib.hid h2
  have HLN := Lib.hid hln
  clear h1 h2 hln
  go_wp2_with (at_builtin; refine OwnB.appendStr H2.out s rfl _ _ rfl rfl rfl hlt HLN.out ?_)
  intro v' w' h2' h3' hk'
  obtain ⟨A', nn', cp', rfl⟩ := ownB_any h2'
  have H2' := Lib.hid h2'
  have hc' : w'.cell? ⟨g, 0, none⟩ = some (.slice A nn cp) := (h3'.cell (p := ⟨g, 0, none⟩) (by show g < g + 1; omega)).trans hc
  have hf' := (H1.out.below h3' (by omega)).frozen 0
  clear h2' hc hf
  go_wp2
  go_end0
  obtain ⟨r1, r2, r3⟩ := wr_store H1.out H2.out H2'.out h3' hk'
  refine ⟨rfl, ?_, hb1.trans r2, hk1.trans r3⟩
  unfold txL
  first | exact r1 | (rw [← List.append_assoc]; exact r1)
end Go.Proofs.YtdkalcecmdadeaaDoor
