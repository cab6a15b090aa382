/- What the rows' list of variables gives the laws on Scan: the classes, and the error of a fault. -/
import Derived.Test.YtlgcofinmpckkaaDoorSc
import Derived.Test.YtlgcofinmpckkaaDoorLwe
import Derived.LaidSub
import Derived.LaidLaws
import Derived.LaidEql
namespace Go.Proofs.YtlgcofinmpckkaaDoor
open Go.RowKit
set_option maxRecDepth 100000

theorem gSyn : Tryd.prog.globalNamed "concord/api.ErrSyntax" = some 0 := by kernel_rfl
theorem gSynType : (Tryd.prog.globals[0]?).map (·.type) = some 27 := by kernel_rfl
theorem cellsErr : Tryd.prog.cellsOf 90 = 1 := by kernel_rfl
theorem cellsStr : Tryd.prog.cellsOf 9 = 1 := by kernel_rfl
theorem starErr : "*" ++ "errors.errorString" = "*errors.errorString" := by decide
theorem rowErr (u : TypeId) (h : Tryd.prog.typeName? 3 u = some "*errors.errorString") : u = 72 :=
  typeName_ptr_named (nm := "errors.errorString") (by rw [starErr]; kernel_rfl) (by kernel_rfl) (by decide) u (by rw [starErr]; exact h)

/-- An error made by errors.New, in memory of its own. -/
def ErrVal (w : World) (v : Value) : Prop := ∃ a c t, v = .iface 72 (.pointer (some a)) ∧ w.heap[a.block]? = some (.cells c t (0, 0))
theorem synAt_of_head {W : World} {rest : List (String × DataW Unit)} (h : laidMet Tryd.prog (("concord/api.ErrSyntax", Rows.laid_concord_api_ErrSyntax) :: rest) W) :
    ∃ v, ErrAt W 0 v ∧ ErrVal W v := by
  obtain ⟨ps, ⟨g0, t0, cs0, f0, p0, q0, hg0, ht0, hv0, hd0, _, e0⟩, hnd, hrows⟩ := h
  obtain rfl := Option.some.inj (gSyn.symm.trans hg0)
  obtain rfl := Option.some.inj (gSynType.symm.trans ht0)
  subst e0
  obtain ⟨l0⟩ := cs0
  have ok0 : ∀ u v, l0 = [.iface u v] → Value.okWide Tryd.prog W .any 0 u v := fun u v e => by
    subst e
    exact (hrows 0 0 (by simp [MemPlace.row])).2 u v (by simpa using World.var?_cell hg0 hv0 0)
  obtain ⟨a0, s0, rfl, hc0, hs0, hz0, rfl⟩ := errorString_of_trod Tryd.underlying27 rowErr Tryd.underlying72 Tryd.underlying90 rfl rfl Tryd.underlying9 cellsErr cellsStr hd0 ok0
  obtain ⟨c0, t0, hb0⟩ := (hrows a0.block a0.off (by simp [MemPlace.row])).1
  have hc : W.cell? ⟨0, 0, none⟩ = some (.iface 72 (.pointer (some a0))) := by simpa using World.var?_cell hg0 hv0 0
  exact ⟨_, ⟨hc, size_of_cell hc⟩, a0, c0, t0, rfl, hb0⟩
/-- The classes and the error. -/
structure LexEnv (w : World) (v : Value) : Prop where
  cls : ClsEnv w
  at_ : ErrAt w 0 v
  val : ErrVal w v
theorem LexEnv.below {w w' : World} {v : Value} (h : LexEnv w v) (hb : Below w.heap.size w w') : LexEnv w' v := by
  obtain ⟨a, c, t, rfl, hh⟩ := h.val
  refine ⟨h.cls.belowB h.cls.2 hb, h.at_.below h.at_.2 hb, a, c, t, rfl, ?_⟩
  have : a.block < w.heap.size := by
    rcases Nat.lt_or_ge a.block w.heap.size with hl | hl
    · exact hl
    · rw [Array.getElem?_eq_none hl] at hh; cases hh
  rw [hb.block _ this]; exact hh
theorem lexEnv_of {W : World} (h : laidMetH Tryd.prog [("concord/api.ErrSyntax", Rows.laid_concord_api_ErrSyntax), ("concord/lexer.classes", Rows.laid_concord_lexer_classes)] W) : ∃ v, LexEnv W v := by
  have h0 : laidMet Tryd.prog [("concord/api.ErrSyntax", Rows.laid_concord_api_ErrSyntax), ("concord/lexer.classes", Rows.laid_concord_lexer_classes)] W := h
  obtain ⟨v, h1, h2⟩ := synAt_of_head h0
  have h3 := h0.filter (fun x => x.1 == "concord/lexer.classes")
  exact ⟨v, cls_of_head (rest := []) h3, h1, h2⟩
end Go.Proofs.YtlgcofinmpckkaaDoor
