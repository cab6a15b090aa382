/- Layer 20: the table of operations. -/
import Derived.Test.YtmdpfikalekmlaaGreatDoorErrs
import Derived.Lib.LaidTab
import Derived.LaidSub
import Derived.ChangeSame
namespace Go.Proofs.YtmdpfikalekmlaaGreatDoor
open Go.RowKit Go.ChangeShapes Go.WideShapes
set_option maxRecDepth 100000
set_option linter.unusedVariables false

def opTab : List (List UInt8 × Int) := [([101, 110, 100], 0), ([110, 111, 110, 101], 0), ([97, 108, 108], 0), ([104, 97, 115], 1), ([116, 101, 114, 109], 2), ([112, 104, 114, 97, 115, 101], 2), ([97, 110, 100], 0), ([111, 114], 0), ([109, 97, 120], 0), ([111, 112, 116], 0), ([101, 120, 99, 101, 112, 116], 0), ([110, 111, 116], 0), ([115, 99, 97, 108, 101], 1), ([102, 105, 120], 1), ([108, 101, 97, 115, 116], 2), ([109, 105, 115, 115], 1), ([104, 105, 116], 1)]
def opName (i : Nat) : List UInt8 := (opTab.getD i ([], 0)).1
def opArgs (i : Nat) : Int := (opTab.getD i ([], 0)).2
theorem opTab_len : opTab.length = 17 := rfl
theorem opArgs_bd (i : Nat) : 0 ≤ opArgs i ∧ opArgs i ≤ 2 := by
  rcases Nat.lt_or_ge i 17 with h | h
  · have : ∀ j, j < 17 → 0 ≤ opArgs j ∧ opArgs j ≤ 2 := by decide
    exact this i h
  · unfold opArgs
    rw [List.getD_eq_getElem?_getD, List.getElem?_eq_none (by rw [opTab_len]; exact h)]
    decide
/-- The package's table, in memory. -/
structure TabEnv (w : World) : Prop where
  name : ∀ i, i < 17 → w.cell? ⟨17, 2 * i, none⟩ = some (.string (⟨(opName i).toArray⟩))
  args : ∀ i, i < 17 → w.cell? ⟨17, 2 * i + 1, none⟩ = some (.int .i64 (opArgs i))
theorem TabEnv.lt {w : World} (h : TabEnv w) : 17 < w.heap.size := World.block_lt_of_cell? w ⟨17, 0, none⟩ (h.name 0 (by decide))
theorem TabEnv.below {w w' : World} (h : TabEnv w) (hb : Below w.heap.size w w') : TabEnv w' :=
  ⟨fun i hi => (hb.cell (p := ⟨17, 2 * i, none⟩) h.lt).trans (h.name i hi), fun i hi => (hb.cell (p := ⟨17, 2 * i + 1, none⟩) h.lt).trans (h.args i hi)⟩
theorem gOpTab : Tryz.prog.globalNamed "concord/isa.table" = some 17 := by kernel_rfl
theorem gOpTabType : (Tryz.prog.globals[17]?).map (·.type) = some 99 := by kernel_rfl
theorem cellsOp : Tryz.prog.cellsOf 98 = 2 := by kernel_rfl
theorem cellsOpTab : Tryz.prog.cellsOf 99 = 34 := by kernel_rfl
theorem cellsStr2 : Tryz.prog.cellsOf 9 = 1 := by kernel_rfl
theorem cellsInt2 : Tryz.prog.cellsOf 3 = 1 := by kernel_rfl
def opDatum {H : Type} (x : List UInt8 × Int) : DataW H := .agg [.lit (.string x.1), .lit (.int .i64 x.2)]
theorem cells_of_ops {H : Type} {enc : TypeId × Value → H} {w : World} {base : Nat} {sp : Nat → Bool} {held : Bool} {fuel : Nat} {cs : List Value} {p : List MemPlace}
    (h : DataW.trod enc Tryz.prog w base sp held fuel 99 cs = some (.agg (opTab.map opDatum), p)) :
    ∀ i, i < 17 → cs[2 * i]? = some (.string (⟨(opName i).toArray⟩)) ∧ cs[2 * i + 1]? = some (.int .i64 (opArgs i)) := by
  cases fuel with
  | zero => simp [DataW.trod] at h
  | succ fuel =>
    simp only [DataW.trod, Tryz.underlying99, cellsOp, cellsOpTab] at h
    split at h
    · rename_i hl
      obtain ⟨xs, hm, hx⟩ := Option.map_eq_some_iff.1 h
      have hxs : xs.map (·.1) = opTab.map (opDatum (H := H)) := by
        have := congrArg Prod.fst hx
        simpa using this
      intro i hi
      obtain ⟨b, hb, hf⟩ := Lib.mapM_at hm i i (by simp [hi])
      have h2 : (xs.map (·.1))[i]? = some b.1 := by simp [hb]
      rw [hxs] at h2
      obtain ⟨y0, y1, n, hx2, hl2, h0, h1⟩ := trod_struct2 Tryz.underlying98 hf
      have hbd : b.1 = opDatum (opTab.getD i ([], 0)) := by
        rw [List.getElem?_map, List.getElem?_eq_getElem (by rw [opTab_len]; exact hi)] at h2
        simp only [Option.map_some, Option.some.injEq] at h2
        rw [List.getD_eq_getElem?_getD, List.getElem?_eq_getElem (by rw [opTab_len]; exact hi), Option.getD_some]
        exact h2.symm
      obtain ⟨s, e0, e1, hs⟩ := DataW.trod_string Tryz.underlying9 h0
      obtain ⟨z, e2, e3, hz⟩ := DataW.trod_int Tryz.underlying3 h1
      rw [hx2] at hbd
      simp only [opDatum, DataW.agg.injEq, List.cons.injEq, and_true] at hbd
      obtain ⟨hb1, hb2⟩ := hbd
      rw [e1] at hb1
      rw [e3] at hb2
      simp only [DataW.lit.injEq, Lit.string.injEq, Lit.int.injEq, true_and] at hb1 hb2
      have e0' := congrArg (·[0]?) e0
      have e2' := congrArg (·[0]?) e2
      simp only [cellsStr2, cellsInt2, List.getElem?_take, List.getElem?_drop, List.getElem?_cons_zero] at e0' e2'
      simp at e0' e2'
      have hname : s = ⟨(opName i).toArray⟩ := by
        apply ba_ext
        unfold opName
        rw [hb1]
      subst hname
      refine ⟨?_, ?_⟩
      · rw [Nat.mul_comm]; exact e0'
      · rw [Nat.mul_comm, ← show z = opArgs i from hb2]; exact e2'
    · cases h
theorem tab_of_head {W : World} {rest : List (String × DataW Unit)} (h : laidMet Tryz.prog (("concord/isa.table", Rows.laid_concord_isa_table) :: rest) W) : TabEnv W := by
  obtain ⟨ps, ⟨g', t', cs, fuel, p, q, hg', ht', hvar, hd, _, _⟩, _⟩ := h
  obtain rfl := Option.some.inj (gOpTab.symm.trans hg')
  obtain rfl := Option.some.inj (gOpTabType.symm.trans ht')
  have hc := cells_of_ops (cs := cs.toList) hd
  exact ⟨fun i hi => by rw [World.var?_cell gOpTab hvar, ← Array.getElem?_toList]; exact (hc i hi).1, fun i hi => by rw [World.var?_cell gOpTab hvar, ← Array.getElem?_toList]; exact (hc i hi).2⟩
end Go.Proofs.YtmdpfikalekmlaaGreatDoor
