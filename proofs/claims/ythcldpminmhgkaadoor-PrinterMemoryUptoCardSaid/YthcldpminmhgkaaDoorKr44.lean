/- Merged for a claim by shake.py: Jbh Jmi -/
import Derived.Test.YthcldpminmhgkaaDoorKr35
import Derived.Test.YthcldpminmhgkaaDoorKr43
import Derived.Test.YthcldpminmhgkaaDoorRows
set_option maxRecDepth 100000
set_option maxHeartbeats 4000000
set_option linter.unusedSimpArgs false
set_option linter.unusedVariables false
section
namespace Go.Proofs.YthcldpminmhgkaaDoor
open Go.RowKit Go.ChangeShapes Go.WideShapes Go.Deep
theorem gTab15 : Tryd.prog.globalNamed "concord/lexer.classes" = some 25 := by kernel_rfl
theorem gTabType15 : (Tryd.prog.globals[25]?).map (·.type) = some 110 := by kernel_rfl
theorem cls15_of_head {W : World} {rest : List (String × DataW Unit)} (h : laidMet Tryd.prog (("concord/lexer.classes", Rows.laid_concord_lexer_classes) :: rest) W) : ClsEnv W := by
 have ht : Lib.TabIs Tryd.prog W "concord/lexer.classes" .u8 clsTab := Lib.tabIs_of_head (rest := rest) gTab15 gTabType15 Tryd.underlying110 Tryd.underlying5 (by kernel_rfl) (by kernel_rfl) h
 have hl : clsTab.length = 128 := by decide
 have hc : ∀ j, j < 128 → W.cell? ⟨25, j, none⟩ = some (.int .u8 (clsTab.getD j 0)) := fun j hj => ht.cell gTab15 j (by rw [hl]; exact hj)
 exact ⟨hc, World.block_lt_of_cell? W ⟨25, 0, none⟩ (hc 0 (by decide))⟩
theorem lawEnv_of {W : World} (h : laidMet Tryd.prog Rows.printerBackUptoRow.laid W) : ∃ ea, LawEnv W ea := by
 obtain ⟨ea, h1⟩ := errEnv_of h (by rfl)
 have h2 := cls15_of_head (rest := []) (h.filter (fun x => x.1 == "concord/lexer.classes"))
 have h3 := p10_of_head (rest := []) (h.filter (fun x => x.1 == "internal/strconv.uint64pow10"))
 have h4 := ask_of_head (rest := []) (h.filter (fun x => x.1 == "concord/printer.asks"))
 exact ⟨ea, ⟨⟨h4, h2, h3, h4.2, h2.2, h3.lt⟩, h1⟩⟩
theorem open_node_arg {H : Type} {enc : TypeId × Value → H} {W : World} {v : Value} {d : DataW H} {p : List MemPlace} (hv : Value.okWide Tryd.prog W .any 0 27 v) (h : DataW.Trod enc Tryd.prog W 0 (fun _ => true) true 27 v d p) :
  ∃ (y : NV) (t : Nd), v = y.val ∧ NdR W (fun b => b < W.heap.size) y t ∧ bkN t ≤ Rows.uptoBulk d := by
 obtain ⟨cs, rfl, hsz⟩ := okWide_struct Tryd.underlying27 hv
 obtain ⟨fuel, hf⟩ := h
 have e : (Value.agg cs).cells.toList = cs.toList := rfl
 obtain ⟨y, t, h1, h2, h3⟩ := open_node fuel _ _ hf
 refine ⟨y, t, ?_, h2, h3⟩
 have h4 : cs.toList = y.cells := by rw [← e]; exact h1
 rw [show cs = y.cells.toArray from by rw [← h4]]
 rfl
end Go.Proofs.YthcldpminmhgkaaDoor
end
section
namespace Go.Proofs.YthcldpminmhgkaaDoor
open Go.RowKit
theorem printerMemory_env {W : World} (h : laidMetH Tryd.prog Rows.printerMemoryUptoRow.laid W) : ∃ ea, LawEnv W ea := lawEnv_of h
theorem printerMemory_walk (w : World) (x : NV) (t : Nd) (hx : NdR w (fun b => b < w.heap.size) x t) (hb : bkN t ≤ 1048576) (hE : ∃ ea, LawEnv w ea) :
  Calls Tryd.prog 6 #[x.val] w fun e w' => e = .returned (.bool true) ∧ Below w.heap.size w w' := by
 obtain ⟨ea, hE⟩ := hE
 exact memory_walk t w ea x hx hb hE
end Go.Proofs.YthcldpminmhgkaaDoor
end
