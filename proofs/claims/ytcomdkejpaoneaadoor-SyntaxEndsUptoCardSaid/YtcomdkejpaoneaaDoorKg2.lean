/- Merged for a claim by shake.py: Errs -/
import Derived.KernelRfl
import Derived.LaidEql
import Derived.LaidLaws
import Derived.LaidSub
import Derived.Laws.Entries
import Derived.Test.YtcomdkejpaoneaaDoorKg1
import Derived.Test.YtcomdkejpaoneaaDoorProg
import Derived.Test.YtcomdkejpaoneaaDoorRows
section
namespace Go.Proofs.YtcomdkejpaoneaaDoor
open Go.RowKit
set_option maxRecDepth 100000
set_option maxHeartbeats 1000000
set_option linter.unusedSimpArgs false
theorem ecellsErr : Tryd.prog.cellsOf 157 = 1 := by kernel_rfl
theorem ecellsStr : Tryd.prog.cellsOf 9 = 1 := by kernel_rfl
theorem estarErr : "*" ++ "errors.errorString" = "*errors.errorString" := by decide
theorem erowErr (u : TypeId) (h : Tryd.prog.typeName? 3 u = some "*errors.errorString") : u = 140 :=
  typeName_ptr_named (nm := "errors.errorString") (by rw [estarErr]; kernel_rfl) (by kernel_rfl) (by decide) u (by rw [estarErr]; exact h)
def errV (a : Addr) : Value := .iface 140 (.pointer (some a))
def ErrsAt (w : World) : List Nat → List Addr → Prop
  | [], [] => True
  | g :: gs, a :: ea => w.cell? ⟨g, 0, none⟩ = some (errV a) ∧ (∃ c t, w.heap[a.block]? = some (.cells c t (0, 0))) ∧ ErrsAt w gs ea
  | _, _ => False
def errRow {H : Type} (l : List UInt8) : DataW H := .iface "*errors.errorString" (.ptr (.agg [.lit (.string l)]))
theorem errsAt_of {W : World} : ∀ (rows : List (String × List UInt8)) (gs : List Nat) (ps : List MemPlace), rows.map (fun x => Tryd.prog.globalNamed x.1) = gs.map some → (∀ g ∈ gs, (Tryd.prog.globals[g]?).map (·.type) = some 24) →
    DataW.LaidVars Tryd.prog W (rows.map fun x => (x.1, errRow x.2)) ps → ps.Nodup → (∀ b off, MemPlace.cell b off ∈ ps → (∃ c t, W.heap[b]? = some (.cells c t (0, 0))) ∧ ∀ u v, W.cell? ⟨b, off, none⟩ = some (.iface u v) → Value.okWide Tryd.prog W .any 0 u v) →
    ∃ ea : List Addr, ErrsAt W gs ea ∧ ea.Nodup ∧ ea.length = gs.length ∧ ∀ a ∈ ea, MemPlace.cell a.block a.off ∈ ps
  | [], [], ps, _, _, _, _, _ => ⟨[], trivial, List.nodup_nil, rfl, fun _ h => by cases h⟩
  | [], g :: gs, ps, h, _, _, _, _ => by cases h
  | x :: rows, [], ps, h, _, _, _, _ => by cases h
  | x :: rows, g :: gs, ps, hg, ht, hl, hnd, hrows => by
    simp only [List.map_cons, List.cons.injEq] at hg
    obtain ⟨hg0, hgs⟩ := hg
    obtain ⟨g0, t0, cs0, f0, p0, q0, hg0', ht0, hv0, hd0, hrest, e0⟩ := hl
    obtain rfl : g = g0 := Option.some.inj (hg0.symm.trans hg0')
    obtain rfl := Option.some.inj ((ht g List.mem_cons_self).symm.trans ht0)
    subst e0
    obtain ⟨l0⟩ := cs0
    have ok0 : ∀ u v, l0 = [.iface u v] → Value.okWide Tryd.prog W .any 0 u v := fun u v e => by
      subst e
      exact (hrows g 0 (by simp [MemPlace.row])).2 u v (by simpa using World.var?_cell hg0' hv0 0)
    obtain ⟨a0, s0, rfl, hc0, hs0, hz0, rfl⟩ := errorString_of_trod Tryd.underlying24 erowErr Tryd.underlying140 Tryd.underlying157 rfl rfl Tryd.underlying9 ecellsErr ecellsStr hd0 ok0
    have hblk := (hrows a0.block a0.off (by simp [MemPlace.row])).1
    have hc : W.cell? ⟨g, 0, none⟩ = some (errV a0) := by simpa [errV] using World.var?_cell hg0' hv0 0
    have hq : ∀ x ∈ q0, x ∈ MemPlace.row ⟨g, 0, none⟩ (Array.mk [Value.iface 140 (.pointer (some a0))]).size ++ MemPlace.row a0 1 ++ q0 := fun x hx => by simp [hx]
    obtain ⟨ea, h1, h2, h3, h4⟩ := errsAt_of rows gs q0 hgs (fun g' h => ht g' (List.mem_cons_of_mem _ h)) hrest (List.nodup_append.1 hnd).2.1 (fun b off hp => hrows b off (hq _ hp))
    refine ⟨a0 :: ea, ⟨hc, hblk, h1⟩, List.nodup_cons.2 ⟨fun hm => ?_, h2⟩, by rw [List.length_cons, List.length_cons, h3], fun a ha => ?_⟩
    · have := (List.nodup_append.1 hnd).2.2 (MemPlace.cell a0.block a0.off) (by simp [MemPlace.row]) _ (h4 a0 hm)
      exact this rfl
    · rw [List.mem_cons] at ha
      rcases ha with rfl | ha
      · simp [MemPlace.row]
      · exact hq _ (h4 a ha)
def errGs : List Nat := [1, 2, 3, 4, 5, 6, 7, 8, 9, 10, 11, 12, 13, 14, 15, 0, 16, 17, 18, 19, 20, 21, 22, 23]
structure ErrEnv (w : World) (ea : List Addr) : Prop where
  at_ : ErrsAt w errGs ea
  nodup : ea.Nodup
  len : ea.length = 24
theorem ErrsAt.get {w : World} : ∀ {gs : List Nat} {ea : List Addr}, ErrsAt w gs ea → ∀ (i : Nat) (h : i < ea.length), w.cell? ⟨gs.getD i 0, 0, none⟩ = some (errV ea[i]) ∧ ∃ c t, w.heap[ea[i].block]? = some (.cells c t (0, 0))
  | [], [], _, i, hi => by cases hi
  | [], a :: ea, h, i, hi => h.elim
  | g :: gs, [], h, i, hi => h.elim
  | g :: gs, a :: ea, h, 0, _ => ⟨h.1, h.2.1⟩
  | g :: gs, a :: ea, h, i + 1, hi => by
    have := ErrsAt.get h.2.2 i (by simpa using hi)
    simpa [List.getD] using this
theorem ErrsAt.below {w w' : World} (hb : Below w.heap.size w w') : ∀ {gs : List Nat} {ea : List Addr}, ErrsAt w gs ea → ErrsAt w' gs ea
  | [], [], _ => trivial
  | [], a :: ea, h => h.elim
  | g :: gs, [], h => h.elim
  | g :: gs, a :: ea, h => by
    obtain ⟨c, t, hh⟩ := h.2.1
    refine ⟨(hb.cell (p := ⟨g, 0, none⟩) (World.block_lt_of_cell? w ⟨g, 0, none⟩ h.1)).trans h.1, ⟨c, t, ?_⟩, ErrsAt.below hb h.2.2⟩
    have hlt : a.block < w.heap.size := by
      rcases Nat.lt_or_ge a.block w.heap.size with h | h
      · exact h
      · rw [Array.getElem?_eq_none h] at hh; cases hh
    rw [hb.block _ hlt]; exact hh
theorem ErrEnv.below {w w' : World} {ea : List Addr} (h : ErrEnv w ea) (hb : Below w.heap.size w w') : ErrEnv w' ea := ⟨h.at_.below hb, h.nodup, h.len⟩
theorem ErrEnv.drew {w : World} {ea : List Addr} (h : ErrEnv w ea) : ErrEnv w.drew ea := h.below (Below.refl _ _).drew
def errI (ea : List Addr) (i : Nat) : Value := errV (ea.getD i ⟨0, 0, none⟩)
theorem ErrEnv.cell {w : World} {ea : List Addr} (h : ErrEnv w ea) (i : Nat) (hi : i < 24) : w.cell? ⟨errGs.getD i 0, 0, none⟩ = some (errI ea i) := by
  have := (h.at_.get i (by rw [h.len]; exact hi)).1
  rw [this]; unfold errI
  rw [List.getD_eq_getElem?_getD, List.getElem?_eq_getElem (by rw [h.len]; exact hi)]; rfl
theorem errI_nnil (ea : List Addr) (i : Nat) (W : World) : (binOp .neq 24 (errI ea i) .nilIface).run Tryd.prog W = .ok (.bool true) W := by
  have h : ∀ d : Nat, (Op.equalIn (d + 1) 24 (errI ea i) .nilIface).run Tryd.prog W = .ok false W := fun d => by simp [errI, errV, Op.equalIn, run_underlying Tryd.underlying24]
  simp only [binOp]
  simp [Op.equal, Op.maxDepth, h 9999]
theorem errI_guard0 (ea : List Addr) (i : Nat) (op : BinOp) (x y : Operand) (W : World) : (eqGuard op 24 x y (errI ea i) .nilIface).run Tryd.prog W = .ok () W := by
  cases op <;> simp [errI, errV, eqGuard, go_sem, Op.eqGuardIn, Op.maxDepth, run_underlying Tryd.underlying24]
def errRows : List (String × List UInt8) := [("concord/api.ErrShort", [99, 111, 110, 99, 111, 114, 100, 58, 32, 116, 111, 111, 32, 115, 104, 111, 114, 116]), ("concord/api.ErrVarint", [99, 111, 110, 99, 111, 114, 100, 58, 32, 118, 97, 114, 105, 110, 116]), ("concord/api.ErrLimit", [99, 111, 110, 99, 111, 114, 100, 58, 32, 108, 105, 109, 105, 116]), ("concord/api.ErrOrder", [99, 111, 110, 99, 111, 114, 100, 58, 32, 111, 114, 100, 101, 114]), ("concord/api.ErrTail", [99, 111, 110, 99, 111, 114, 100, 58, 32, 116, 97, 105, 108]), ("concord/api.ErrTag", [99, 111, 110, 99, 111, 114, 100, 58, 32, 116, 97, 103]), ("concord/api.ErrSum", [99, 111, 110, 99, 111, 114, 100, 58, 32, 115, 117, 109]), ("concord/api.ErrRange", [99, 111, 110, 99, 111, 114, 100, 58, 32, 114, 97, 110, 103, 101]), ("concord/api.ErrSize", [99, 111, 110, 99, 111, 114, 100, 58, 32, 115, 105, 122, 101]), ("concord/api.ErrCorrupt", [99, 111, 110, 99, 111, 114, 100, 58, 32, 99, 111, 114, 114, 117, 112, 116]), ("concord/api.ErrSchema", [99, 111, 110, 99, 111, 114, 100, 58, 32, 115, 99, 104, 101, 109, 97]), ("concord/api.ErrField", [99, 111, 110, 99, 111, 114, 100, 58, 32, 102, 105, 101, 108, 100]), ("concord/api.ErrValue", [99, 111, 110, 99, 111, 114, 100, 58, 32, 118, 97, 108, 117, 101]), ("concord/api.ErrPattern", [99, 111, 110, 99, 111, 114, 100, 58, 32, 112, 97, 116, 116, 101, 114, 110]), ("concord/api.ErrStates", [99, 111, 110, 99, 111, 114, 100, 58, 32, 115, 116, 97, 116, 101, 115]), ("concord/api.ErrSyntax", [99, 111, 110, 99, 111, 114, 100, 58, 32, 115, 121, 110, 116, 97, 120]), ("concord/api.ErrDeep", [99, 111, 110, 99, 111, 114, 100, 58, 32, 116, 111, 111, 32, 100, 101, 101, 112]), ("concord/api.ErrNode", [99, 111, 110, 99, 111, 114, 100, 58, 32, 110, 111, 100, 101]), ("concord/api.ErrTerms", [99, 111, 110, 99, 111, 114, 100, 58, 32, 116, 111, 111, 32, 109, 97, 110, 121, 32, 116, 101, 114, 109, 115]), ("concord/api.ErrScore", [99, 111, 110, 99, 111, 114, 100, 58, 32, 115, 99, 111, 114, 101, 32, 111, 118, 101, 114, 102, 108, 111, 119]), ("concord/api.ErrCode", [99, 111, 110, 99, 111, 114, 100, 58, 32, 99, 111, 100, 101]), ("concord/api.ErrFuel", [99, 111, 110, 99, 111, 114, 100, 58, 32, 102, 117, 101, 108]), ("concord/api.ErrDoc", [99, 111, 110, 99, 111, 114, 100, 58, 32, 100, 111, 99, 117, 109, 101, 110, 116]), ("concord/api.ErrCommand", [99, 111, 110, 99, 111, 114, 100, 58, 32, 99, 111, 109, 109, 97, 110, 100])]
end Go.Proofs.YtcomdkejpaoneaaDoor
end
