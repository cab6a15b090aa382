/- Merged for a claim by shake.py: Errs Ht Om On Mk -/
import Derived.Test.YthcldpminmhgkaaDoorKrA
import Derived.Deep.RegionHeldLaw
import Derived.KernelRfl
import Derived.LaidEql
import Derived.LaidLaws
import Derived.LaidSub
import Derived.Laws.Entries
import Derived.Maps.AppendAt
import Derived.Test.YthcldpminmhgkaaDoorKr1
import Derived.Test.YthcldpminmhgkaaDoorProg
import Derived.Test.YthcldpminmhgkaaDoorRows
set_option maxRecDepth 100000
set_option maxHeartbeats 1000000
set_option linter.unusedSimpArgs false
set_option linter.unusedVariables false
section
namespace Go.Proofs.YthcldpminmhgkaaDoor
open Go.RowKit
theorem ecellsErr : Tryd.prog.cellsOf 160 = 1 := by kernel_rfl
theorem ecellsStr : Tryd.prog.cellsOf 9 = 1 := by kernel_rfl
theorem estarErr : "*" ++ "errors.errorString" = "*errors.errorString" := by decide
theorem erowErr (u : TypeId) (h : Tryd.prog.typeName? 3 u = some "*errors.errorString") : u = 144 :=
 typeName_ptr_named (nm := "errors.errorString") (by rw [estarErr]; kernel_rfl) (by kernel_rfl) (by decide) u (by rw [estarErr]; exact h)
def errV (a : Addr) : Value := .iface 144 (.pointer (some a))
def ErrsAt (w : World) : List Nat → List Addr → Prop
 | [], [] => True
 | g :: gs, a :: ea => w.cell? ⟨g, 0, none⟩ = some (errV a) ∧ (∃ c t, w.heap[a.block]? = some (.cells c t (0, 0))) ∧ ErrsAt w gs ea
 | _, _ => False
def errRow {H : Type} (l : List UInt8) : DataW H := .iface "*errors.errorString" (.ptr (.agg [.lit (.string l)]))
theorem errsAt_of {W : World} : ∀ (rows : List (String × List UInt8)) (gs : List Nat) (ps : List MemPlace), rows.map (fun x => Tryd.prog.globalNamed x.1) = gs.map some → (∀ g ∈ gs, (Tryd.prog.globals[g]?).map (·.type) = some 35) →
  DataW.LaidVars Tryd.prog W (rows.map fun x => (x.1, errRow x.2)) ps → ps.Nodup → (∀ b off, MemPlace.cell b off ∈ ps → (∃ c t, W.heap[b]? = some (.cells c t (0, 0))) ∧ ∀ u v, W.cell? ⟨b, off, none⟩ = some (.iface u v) → Value.okWide Tryd.prog W .any 0 u v) →
  ∃ ea : List Addr, ErrsAt W gs ea ∧ ea.Nodup ∧ ea.length = gs.length ∧ ∀ a ∈ ea, MemPlace.cell a.block a.off ∈ ps
 | [], [], ps, _, _, _, _, _ => ⟨[], trivial, List.nodup_nil, rfl, fun _ h => by cases h⟩
 | [], g :: gs, ps, h, _, _, _, _ => by cases h
 | x :: rows, [], ps, h, _, _, _, _ => by cases h
 | x :: rows, g :: gs, ps, hg, ht, hl, hnd, hrows => by
  simp only [List.map_cons, List.cons.injEq] at hg
  obtain ⟨hg0, hgs⟩ := hg
  obtain ⟨g0, t0, cs0, f0, p0, q0, hg0', ht0, hv0, hd0, hrest, e0⟩ := hl
  obtain rfl : g = g0 := Option.some.inj (hg0.symm.trans hg0')
  obtain rfl := Option.some.inj ((ht g List.mem_cons_self).symm.trans ht0)
  subst e0
  obtain ⟨l0⟩ := cs0
  have ok0 : ∀ u v, l0 = [.iface u v] → Value.okWide Tryd.prog W .any 0 u v := fun u v e => by
   subst e
   exact (hrows g 0 (by simp [MemPlace.row])).2 u v (by simpa using World.var?_cell hg0' hv0 0)
  obtain ⟨a0, s0, rfl, hc0, hs0, hz0, rfl⟩ := errorString_of_trod Tryd.underlying35 erowErr Tryd.underlying144 Tryd.underlying160 rfl rfl Tryd.underlying9 ecellsErr ecellsStr hd0 ok0
  have hblk := (hrows a0.block a0.off (by simp [MemPlace.row])).1
  have hc : W.cell? ⟨g, 0, none⟩ = some (errV a0) := by simpa [errV] using World.var?_cell hg0' hv0 0
  have hq : ∀ x ∈ q0, x ∈ MemPlace.row ⟨g, 0, none⟩ (Array.mk [Value.iface 144 (.pointer (some a0))]).size ++ MemPlace.row a0 1 ++ q0 := fun x hx => by simp [hx]
  obtain ⟨ea, h1, h2, h3, h4⟩ := errsAt_of rows gs q0 hgs (fun g' h => ht g' (List.mem_cons_of_mem _ h)) hrest (List.nodup_append.1 hnd).2.1 (fun b off hp => hrows b off (hq _ hp))
  refine ⟨a0 :: ea, ⟨hc, hblk, h1⟩, List.nodup_cons.2 ⟨fun hm => ?_, h2⟩, by rw [List.length_cons, List.length_cons, h3], fun a ha => ?_⟩
  ·have := (List.nodup_append.1 hnd).2.2 (MemPlace.cell a0.block a0.off) (by simp [MemPlace.row]) _ (h4 a0 hm)
   exact this rfl
  ·rw [List.mem_cons] at ha
   rcases ha with rfl | ha
   ·simp [MemPlace.row]
   ·exact hq _ (h4 a ha)
def errGs : List Nat := [2, 3, 4, 5, 6, 7, 8, 9, 10, 11, 12, 13, 14, 15, 16, 1, 18, 0, 19, 20, 21, 22, 23, 24]
structure ErrEnv (w : World) (ea : List Addr) : Prop where
 at_ : ErrsAt w errGs ea
 nodup : ea.Nodup
 len : ea.length = 24
theorem ErrsAt.get {w : World} : ∀ {gs : List Nat} {ea : List Addr}, ErrsAt w gs ea → ∀ (i : Nat) (h : i < ea.length), w.cell? ⟨gs.getD i 0, 0, none⟩ = some (errV ea[i]) ∧ ∃ c t, w.heap[ea[i].block]? = some (.cells c t (0, 0))
 | [], [], _, i, hi => by cases hi
 | [], a :: ea, h, i, hi => h.elim
 | g :: gs, [], h, i, hi => h.elim
 | g :: gs, a :: ea, h, 0, _ => ⟨h.1, h.2.1⟩
 | g :: gs, a :: ea, h, i + 1, hi => by
  have := ErrsAt.get h.2.2 i (by simpa using hi)
  simpa [List.getD] using this
theorem ErrsAt.below {w w' : World} (hb : Below w.heap.size w w') : ∀ {gs : List Nat} {ea : List Addr}, ErrsAt w gs ea → ErrsAt w' gs ea
 | [], [], _ => trivial
 | [], a :: ea, h => h.elim
 | g :: gs, [], h => h.elim
 | g :: gs, a :: ea, h => by
  obtain ⟨c, t, hh⟩ := h.2.1
  refine ⟨(hb.cell (p := ⟨g, 0, none⟩) (World.block_lt_of_cell? w ⟨g, 0, none⟩ h.1)).trans h.1, ⟨c, t, ?_⟩, ErrsAt.below hb h.2.2⟩
  have hlt : a.block < w.heap.size := by
   rcases Nat.lt_or_ge a.block w.heap.size with h | h
   ·exact h
   ·rw [Array.getElem?_eq_none h] at hh; cases hh
  rw [hb.block _ hlt]; exact hh
theorem ErrEnv.below {w w' : World} {ea : List Addr} (h : ErrEnv w ea) (hb : Below w.heap.size w w') : ErrEnv w' ea := ⟨h.at_.below hb, h.nodup, h.len⟩
def errI (ea : List Addr) (i : Nat) : Value := errV (ea.getD i ⟨0, 0, none⟩)
theorem ErrEnv.cell {w : World} {ea : List Addr} (h : ErrEnv w ea) (i : Nat) (hi : i < 24) : w.cell? ⟨errGs.getD i 0, 0, none⟩ = some (errI ea i) := by
 have := (h.at_.get i (by rw [h.len]; exact hi)).1
 rw [this]; unfold errI
 rw [List.getD_eq_getElem?_getD, List.getElem?_eq_getElem (by rw [h.len]; exact hi)]; rfl
theorem einfoP : (Tryd.prog.info? 144).map (·.comparable) = some true := by kernel_rfl
theorem einfoS : (Tryd.prog.info? 160).map (fun i => decide (i.size ≠ 0)) = some true := by kernel_rfl
theorem errI_eq {w : World} {ea : List Addr} (h : ErrEnv w ea) (i j : Nat) (hi : i < 24) (hj : j < 24) : (binOp .eql 35 (errI ea i) (errI ea j)).run Tryd.prog w = .ok (.bool (decide (i = j))) w := by
 obtain ⟨p, hp, hc⟩ := Option.map_eq_some_iff.1 einfoP
 obtain ⟨q, hq, hz⟩ := Option.map_eq_some_iff.1 einfoS
 by_cases hij : i = j
 ·subst hij
  rw [decide_eq_true rfl]
  exact run_eql_iface_ptr_same w _ Tryd.underlying35 Tryd.underlying144 hp hc hq
 ·rw [decide_eq_false hij]
  have hi' : i < ea.length := by rw [h.len]; exact hi
  have hj' : j < ea.length := by rw [h.len]; exact hj
  obtain ⟨_, ca, ta, ha⟩ := h.at_.get i hi'
  obtain ⟨_, cb, tb, hb⟩ := h.at_.get j hj'
  have hne : ea[i] ≠ ea[j] := fun e => hij ((List.getElem_inj h.nodup).1 e)
  have e1 : errI ea i = errV ea[i] := by unfold errI; rw [List.getD_eq_getElem?_getD, List.getElem?_eq_getElem hi']; rfl
  have e2 : errI ea j = errV ea[j] := by unfold errI; rw [List.getD_eq_getElem?_getD, List.getElem?_eq_getElem hj']; rfl
  rw [e1, e2]
  exact run_eql_iface_ptr_other w Tryd.underlying35 Tryd.underlying144 hp hc hq (of_decide_eq_true hz) hne ha hb
theorem errI_nil (ea : List Addr) (i : Nat) (W : World) : (binOp .eql 35 (errI ea i) .nilIface).run Tryd.prog W = .ok (.bool false) W := by
 have h : ∀ d : Nat, (Op.equalIn (d + 1) 35 (errI ea i) .nilIface).run Tryd.prog W = .ok false W := fun d => by simp [errI, errV, Op.equalIn, run_underlying Tryd.underlying35]
 simp only [binOp]
 simp [Op.equal, Op.maxDepth, h 9999]
theorem errI_nnil (ea : List Addr) (i : Nat) (W : World) : (binOp .neq 35 (errI ea i) .nilIface).run Tryd.prog W = .ok (.bool true) W := by
 have h : ∀ d : Nat, (Op.equalIn (d + 1) 35 (errI ea i) .nilIface).run Tryd.prog W = .ok false W := fun d => by simp [errI, errV, Op.equalIn, run_underlying Tryd.underlying35]
 simp only [binOp]
 simp [Op.equal, Op.maxDepth, h 9999]
theorem errI_guard (ea : List Addr) (i j : Nat) (op : BinOp) (x y : Operand) (W : World) : (eqGuard op 35 x y (errI ea i) (errI ea j)).run Tryd.prog W = .ok () W := by
 cases op <;> simp [errI, errV, eqGuard, go_sem, Op.eqGuardIn, Op.maxDepth, run_underlying Tryd.underlying35]
theorem errI_guard0 (ea : List Addr) (i : Nat) (op : BinOp) (x y : Operand) (W : World) : (eqGuard op 35 x y (errI ea i) .nilIface).run Tryd.prog W = .ok () W := by
 cases op <;> simp [errI, errV, eqGuard, go_sem, Op.eqGuardIn, Op.maxDepth, run_underlying Tryd.underlying35]
def errRows : List (String × List UInt8) := [("concord/api.ErrShort", [99, 111, 110, 99, 111, 114, 100, 58, 32, 116, 111, 111, 32, 115, 104, 111, 114, 116]), ("concord/api.ErrVarint", [99, 111, 110, 99, 111, 114, 100, 58, 32, 118, 97, 114, 105, 110, 116]), ("concord/api.ErrLimit", [99, 111, 110, 99, 111, 114, 100, 58, 32, 108, 105, 109, 105, 116]), ("concord/api.ErrOrder", [99, 111, 110, 99, 111, 114, 100, 58, 32, 111, 114, 100, 101, 114]), ("concord/api.ErrTail", [99, 111, 110, 99, 111, 114, 100, 58, 32, 116, 97, 105, 108]), ("concord/api.ErrTag", [99, 111, 110, 99, 111, 114, 100, 58, 32, 116, 97, 103]), ("concord/api.ErrSum", [99, 111, 110, 99, 111, 114, 100, 58, 32, 115, 117, 109]), ("concord/api.ErrRange", [99, 111, 110, 99, 111, 114, 100, 58, 32, 114, 97, 110, 103, 101]), ("concord/api.ErrSize", [99, 111, 110, 99, 111, 114, 100, 58, 32, 115, 105, 122, 101]), ("concord/api.ErrCorrupt", [99, 111, 110, 99, 111, 114, 100, 58, 32, 99, 111, 114, 114, 117, 112, 116]), ("concord/api.ErrSchema", [99, 111, 110, 99, 111, 114, 100, 58, 32, 115, 99, 104, 101, 109, 97]), ("concord/api.ErrField", [99, 111, 110, 99, 111, 114, 100, 58, 32, 102, 105, 101, 108, 100]), ("concord/api.ErrValue", [99, 111, 110, 99, 111, 114, 100, 58, 32, 118, 97, 108, 117, 101]), ("concord/api.ErrPattern", [99, 111, 110, 99, 111, 114, 100, 58, 32, 112, 97, 116, 116, 101, 114, 110]), ("concord/api.ErrStates", [99, 111, 110, 99, 111, 114, 100, 58, 32, 115, 116, 97, 116, 101, 115]), ("concord/api.ErrSyntax", [99, 111, 110, 99, 111, 114, 100, 58, 32, 115, 121, 110, 116, 97, 120]), ("concord/api.ErrDeep", [99, 111, 110, 99, 111, 114, 100, 58, 32, 116, 111, 111, 32, 100, 101, 101, 112]), ("concord/api.ErrNode", [99, 111, 110, 99, 111, 114, 100, 58, 32, 110, 111, 100, 101]), ("concord/api.ErrTerms", [99, 111, 110, 99, 111, 114, 100, 58, 32, 116, 111, 111, 32, 109, 97, 110, 121, 32, 116, 101, 114, 109, 115]), ("concord/api.ErrScore", [99, 111, 110, 99, 111, 114, 100, 58, 32, 115, 99, 111, 114, 101, 32, 111, 118, 101, 114, 102, 108, 111, 119]), ("concord/api.ErrCode", [99, 111, 110, 99, 111, 114, 100, 58, 32, 99, 111, 100, 101]), ("concord/api.ErrFuel", [99, 111, 110, 99, 111, 114, 100, 58, 32, 102, 117, 101, 108]), ("concord/api.ErrDoc", [99, 111, 110, 99, 111, 114, 100, 58, 32, 100, 111, 99, 117, 109, 101, 110, 116]), ("concord/api.ErrCommand", [99, 111, 110, 99, 111, 114, 100, 58, 32, 99, 111, 109, 109, 97, 110, 100])]
theorem errEnv_of_rows {W : World} (h : laidMet Tryd.prog (errRows.map fun x => (x.1, errRow x.2)) W) : ∃ ea, ErrEnv W ea := by
 obtain ⟨ps, h1, h2, h3⟩ := h
 obtain ⟨ea, g1, g2, g3, _⟩ := errsAt_of errRows errGs ps (by kernel_rfl) (by
  have h : errGs.all (fun g => (Tryd.prog.globals[g]?).map (·.type) == some 35) = true := by kernel_rfl
  intro g hg
  exact beq_iff_eq.1 (List.all_eq_true.1 h g hg)) h1 h2 h3
 exact ⟨ea, g1, g2, g3⟩
theorem errEnv_of {W : World} {l : List (String × DataW Unit)} (h : laidMet Tryd.prog l W) (e : l.filter (fun x => (errRows.map (·.1)).contains x.1) = errRows.map fun x => (x.1, errRow x.2)) : ∃ ea, ErrEnv W ea := by
 have := h.filter (fun x => (errRows.map (·.1)).contains x.1)
 rw [e] at this
 exact errEnv_of_rows this
theorem Num_nil (w : World) : Calls Tryd.prog 27 #[.nilIface] w fun e w' => e = .returned (.int .i64 0) ∧ w = w' := by
 go_enter Tryd.func27, Tryd.ntmps27
 go_wp2
 go_ret
 exact ⟨rfl, rfl⟩
theorem more_17 (ea : List Addr) (w : World) (h : ErrEnv w ea) : Calls Tryd.prog 46 #[errI ea 17] w fun e w' => e = .returned (.int .i64 18) ∧ w = w' := by
 have c15 : w.cell? ⟨1, 0, none⟩ = some (errI ea 15) := h.cell 15 (by omega)
 have q15 : (binOp .eql 35 (errI ea 17) (errI ea 15)).run Tryd.prog w = .ok (.bool false) w := errI_eq h 17 15 (by omega) (by omega)
 have c16 : w.cell? ⟨18, 0, none⟩ = some (errI ea 16) := h.cell 16 (by omega)
 have q16 : (binOp .eql 35 (errI ea 17) (errI ea 16)).run Tryd.prog w = .ok (.bool false) w := errI_eq h 17 16 (by omega) (by omega)
 have c17 : w.cell? ⟨0, 0, none⟩ = some (errI ea 17) := h.cell 17 (by omega)
 have q17 : (binOp .eql 35 (errI ea 17) (errI ea 17)).run Tryd.prog w = .ok (.bool true) w := errI_eq h 17 17 (by omega) (by omega)
 have n0 := errI_nil ea 17 w
 have n1 := fun op x y => errI_guard0 ea 17 op x y w
 have n2 := fun j op x y => errI_guard ea 17 j op x y w
 clear h
 go_enter Tryd.func46, Tryd.ntmps46
 go_wp2
 go_ret
 exact ⟨rfl, rfl⟩
theorem Num_17 (ea : List Addr) (w : World) (h : ErrEnv w ea) : Calls Tryd.prog 27 #[errI ea 17] w fun e w' => e = .returned (.int .i64 18) ∧ w = w' := by
 have c0 : w.cell? ⟨2, 0, none⟩ = some (errI ea 0) := h.cell 0 (by omega)
 have q0 : (binOp .eql 35 (errI ea 17) (errI ea 0)).run Tryd.prog w = .ok (.bool false) w := errI_eq h 17 0 (by omega) (by omega)
 have c1 : w.cell? ⟨3, 0, none⟩ = some (errI ea 1) := h.cell 1 (by omega)
 have q1 : (binOp .eql 35 (errI ea 17) (errI ea 1)).run Tryd.prog w = .ok (.bool false) w := errI_eq h 17 1 (by omega) (by omega)
 have c2 : w.cell? ⟨4, 0, none⟩ = some (errI ea 2) := h.cell 2 (by omega)
 have q2 : (binOp .eql 35 (errI ea 17) (errI ea 2)).run Tryd.prog w = .ok (.bool false) w := errI_eq h 17 2 (by omega) (by omega)
 have c3 : w.cell? ⟨5, 0, none⟩ = some (errI ea 3) := h.cell 3 (by omega)
 have q3 : (binOp .eql 35 (errI ea 17) (errI ea 3)).run Tryd.prog w = .ok (.bool false) w := errI_eq h 17 3 (by omega) (by omega)
 have c4 : w.cell? ⟨6, 0, none⟩ = some (errI ea 4) := h.cell 4 (by omega)
 have q4 : (binOp .eql 35 (errI ea 17) (errI ea 4)).run Tryd.prog w = .ok (.bool false) w := errI_eq h 17 4 (by omega) (by omega)
 have c5 : w.cell? ⟨7, 0, none⟩ = some (errI ea 5) := h.cell 5 (by omega)
 have q5 : (binOp .eql 35 (errI ea 17) (errI ea 5)).run Tryd.prog w = .ok (.bool false) w := errI_eq h 17 5 (by omega) (by omega)
 have c6 : w.cell? ⟨8, 0, none⟩ = some (errI ea 6) := h.cell 6 (by omega)
 have q6 : (binOp .eql 35 (errI ea 17) (errI ea 6)).run Tryd.prog w = .ok (.bool false) w := errI_eq h 17 6 (by omega) (by omega)
 have c7 : w.cell? ⟨9, 0, none⟩ = some (errI ea 7) := h.cell 7 (by omega)
 have q7 : (binOp .eql 35 (errI ea 17) (errI ea 7)).run Tryd.prog w = .ok (.bool false) w := errI_eq h 17 7 (by omega) (by omega)
 have c8 : w.cell? ⟨10, 0, none⟩ = some (errI ea 8) := h.cell 8 (by omega)
 have q8 : (binOp .eql 35 (errI ea 17) (errI ea 8)).run Tryd.prog w = .ok (.bool false) w := errI_eq h 17 8 (by omega) (by omega)
 have c9 : w.cell? ⟨11, 0, none⟩ = some (errI ea 9) := h.cell 9 (by omega)
 have q9 : (binOp .eql 35 (errI ea 17) (errI ea 9)).run Tryd.prog w = .ok (.bool false) w := errI_eq h 17 9 (by omega) (by omega)
 have c10 : w.cell? ⟨12, 0, none⟩ = some (errI ea 10) := h.cell 10 (by omega)
 have q10 : (binOp .eql 35 (errI ea 17) (errI ea 10)).run Tryd.prog w = .ok (.bool false) w := errI_eq h 17 10 (by omega) (by omega)
 have c11 : w.cell? ⟨13, 0, none⟩ = some (errI ea 11) := h.cell 11 (by omega)
 have q11 : (binOp .eql 35 (errI ea 17) (errI ea 11)).run Tryd.prog w = .ok (.bool false) w := errI_eq h 17 11 (by omega) (by omega)
 have c12 : w.cell? ⟨14, 0, none⟩ = some (errI ea 12) := h.cell 12 (by omega)
 have q12 : (binOp .eql 35 (errI ea 17) (errI ea 12)).run Tryd.prog w = .ok (.bool false) w := errI_eq h 17 12 (by omega) (by omega)
 have c13 : w.cell? ⟨15, 0, none⟩ = some (errI ea 13) := h.cell 13 (by omega)
 have q13 : (binOp .eql 35 (errI ea 17) (errI ea 13)).run Tryd.prog w = .ok (.bool false) w := errI_eq h 17 13 (by omega) (by omega)
 have c14 : w.cell? ⟨16, 0, none⟩ = some (errI ea 14) := h.cell 14 (by omega)
 have q14 : (binOp .eql 35 (errI ea 17) (errI ea 14)).run Tryd.prog w = .ok (.bool false) w := errI_eq h 17 14 (by omega) (by omega)
 have n0 := errI_nil ea 17 w
 have n1 := fun op x y => errI_guard0 ea 17 op x y w
 have n2 := fun j op x y => errI_guard ea 17 j op x y w
 have H := LH h; clear h
 go_enter Tryd.func27, Tryd.ntmps27
 go_wp2_with fail
 refine (more_17 ea w H.out).mono ?_
 rintro e w' ⟨rfl, rfl⟩
 go_wp2
 go_ret
 exact ⟨rfl, rfl⟩
section
variable {P : Program} {md : Region.Mode} {ops : Array Oper} {Q : Exit → Act → World → Prop} {S : World → Prop}
end
def CellsTo (w w' : World) (v : Value) (n : Nat) : Prop := ∀ g j, g < w.heap.size → (v.ownBlock = some g → j < n) → w'.cell? ⟨g, j, none⟩ = w.cell? ⟨g, j, none⟩
theorem CellsTo.of_room {w w' : World} {base : Nat} {e : TypeId} {size g n cap m : Nat} {xs ys : List Value} {cap' : Nat} (h : w.ownsRow base e size (.slice (some ⟨g, 0, none⟩) n cap) n xs)
  (h' : w'.ownsRow base e size (.slice (some ⟨g, 0, none⟩) (n + m) cap') (n + m) (xs ++ ys)) (hg : w.grownBy w' (some g)) : CellsTo w w' (.slice (some ⟨g, 0, none⟩) n cap) (n * size) := by
 intro b j hb hj
 by_cases hbg : b = g
 ·subst hbg
  have hj' := hj rfl
  have hle : n * size ≤ (n + m) * size := Nat.mul_le_mul_right _ (by omega)
  rw [h.cellAt j hj', h'.cellAt j (by omega), List.getElem?_append_left (by rw [h.1]; exact hj')]
 ·exact World.cell?_of_block (hg.block b hb (fun e => hbg (by injection e)))
theorem run_append_to {P : Program} (w : World) (base : Nat) (t ty e : TypeId) (i : TypeInfo) (z : Value) (size bytes : Nat) (ht : P.underlying t = some (.slice e)) (hi : P.info? e = some i) (hz : i.zero = some z)
  (hsize : i.size = size) (hby : i.bytes = bytes) (hzs : z.cells.size = size) (hsz : 0 < size)
  (v : Value) (n : Nat) (xs : List Value) (hown : w.ownsRow base e size v n xs)
  (ad : Addr) (m c : Nat) (news : List Value) (hl : news.length = m * size) (hnews : ∀ j u, news[j]? = some u → w.cell? (ad.add j) = some u) (h1 : ∀ u ∈ news, u.oneCell' = true)
  (hm : 0 < m) (h63 : n + m ≤ maxLen) (hbytes : (n + m) * bytes ≤ 140737488355328) (hbase : base ≤ w.heap.size) :
  ∃ g cap w', (Builtin.append_ #[t, t] ty #[v, .slice (some ad) m c]).run P w = .ok (.slice (some ⟨g, 0, none⟩) (n + m) cap) w' ∧
   w'.ownsRow base e size (.slice (some ⟨g, 0, none⟩) (n + m) cap) (n + m) (xs ++ news) ∧ w.grownBy w' v.ownBlock ∧ (v.ownBlock = some g ∨ g = w.heap.size) ∧ g < w'.heap.size ∧ CellsTo w w' v (n * size) := by
 obtain ⟨g, cap, w', hr, h2, h3, h4, h5⟩ := run_append_lies (P := P) w t ty base e i z size bytes ht hi hz hsize hby hzs hsz v n xs hown ad m c news hl hnews h1 hm h63 hbytes hbase w.heap.size rfl
 refine ⟨g, cap, w', hr, h2, h3, h4, h5, ?_⟩
 have h63' : ((n + m : Nat) : Int) ≤ 9223372036854775807 := by simp only [maxLen] at h63; omega
 rcases hown.2 with ⟨rfl, _⟩ | ⟨g0, cap0, cur, rfl, hbg, hg, hnc, hcm, hcs, htake⟩
 ·exact fun b j hb _ => World.cell?_of_block (h3.block b hb (fun e => by cases e))
 ·by_cases hroom : n + m ≤ cap0
  ·have hfit : n * i.size + news.length ≤ cur.size := by rw [hsize, hl, hcs, ← Nat.add_mul]; exact Nat.mul_le_mul_right _ hroom
   have hr2 := run_append_room (P := P) w t ty e i ht hi g0 n cap0 cur hg ad m c news (by rw [hsize]; exact hl) hnews h1 hroom hfit
   have e2 := hr.symm.trans hr2
   injection e2 with e3 e4
   injection e3 with e5 _ e6
   injection e5 with e5
   injection e5 with e5 _ _
   subst e5
   exact CellsTo.of_room hown h2 h3
  ·have holds : ∀ j u, xs[j]? = some u → w.cell? ((⟨g0, 0, none⟩ : Addr).add j) = some u := hown.cells (g := g0) rfl
   have hr2 := run_append_grow (P := P) w t ty e i z ht hi hz ⟨g0, 0, none⟩ n cap0 xs (by rw [hsize]; exact hown.1) holds ad m c news (by rw [hsize]; exact hl) hnews (by omega) h63' (growslice_fits (by omega) (by rw [hby]; exact hbytes))
   have e2 := hr.symm.trans hr2
   injection e2 with e3 e4
   subst e4
   intro b j hb _
   rw [World.cell?_alloc_lt w.drew _ ⟨b, j, none⟩ hb]
   rfl
theorem OwnL.stepAppendTo {α : Type} {S : Shape α} (hS : S.Ok) {w : World} {B : Nat} {v : Value} {l : List α} (h : OwnL S w B v l) (x : α) (nb : Nat) {ops : Array Oper} {o : Oper} {a : Act} {K : Act → World → Prop} {Q : Exit → Act → World → Prop} {E : Prop} (hgd : o.guard = none) (s y : Operand)
  (ho : o.op = .call { callee := .builtin .append, args := #[s, y], argTypes := #[S.tS, S.tS] }) (hs : a.eval s = v) (hy : a.eval y = .slice (some ⟨nb, 0, none⟩) 1 1) (hnb : ∀ j u, (S.enc x)[j]? = some u → w.cell? ⟨nb, j, none⟩ = some u) (hB : B ≤ w.heap.size) (hl : l.length + 1 ≤ 970000000000)
  (k : ∀ g cap w', OwnL S w' B (.slice (some ⟨g, 0, none⟩) (l.length + 1) cap) (l ++ [x]) → Below B w w' → KeptBut w w' v → (v.ownBlock = some g ∨ g = w.heap.size) → g < w'.heap.size → CellsTo w w' v (l.length * S.size) → K (a.put o.dst (.slice (some ⟨g, 0, none⟩) (l.length + 1) cap)) w') :
  if Region.wanted o (yielded ops a.tmps) = true then Oper.wp Tryd.prog o a w K Q else E := by
 obtain ⟨i0, hi, hz0, hz1, hz2⟩ := info_parts hS.info
 have hlt := h.lt
 have hw : Region.wanted o (yielded ops a.tmps) = true := by simp [Region.wanted, hgd]
 rw [if_pos hw]
 obtain ⟨g, cap, w', hr, h2, h3, h4, h5, h6⟩ := run_append_to (P := Tryd.prog) w B S.tS o.type S.tE i0 S.zero S.size S.bytes hS.under hi hz0 hz1 hz2 hS.zs hS.pos v l.length (S.cells l) h ⟨nb, 0, none⟩ 1 1 (S.enc x) (by rw [hS.len, Nat.one_mul])
  (fun j u hj => by rw [show (⟨nb, 0, none⟩ : Addr).add j = ⟨nb, j, none⟩ from by unfold Addr.add; split <;> simp_all]; exact hnb j u hj) (hS.one x) (by decide) (by unfold maxLen; omega)
  (by have h1 := hS.small; have h2 := Nat.mul_le_mul hl h1; omega) hB
 unfold Oper.wp execOp
 simp only [ho, resolve, invoke, builtin, Sem.run_bind, Sem.run_pure, Result.andThen_ok, List.map_toArray, List.map_cons, List.map_nil, hs, hy, hr]
 refine k g cap w' ?_ ((Below.refl _ _).grown h3 hB (fun g hg => (hlt g hg).1)) (fun b hb hv => h3.block b hb (fun e => hv e.symm)) h4 h5 h6
 unfold OwnL
 rw [List.length_append, Shape.cells_append, show S.cells [x] = S.enc x from by simp [Shape.cells]]
 exact h2
def KTy (e : TypeId) (w w' : World) : Prop := ∀ b, b < w.heap.size → (∀ cs mk, w.heap[b]? ≠ some (.cells cs e mk)) → w'.heap[b]? = w.heap[b]?
theorem KTy.refl (e : TypeId) (w : World) : KTy e w w := fun _ _ _ => rfl
theorem KTy.trans {e : TypeId} {a b c : World} (h : KTy e a b) (k : KTy e b c) (hs : a.heap.size ≤ b.heap.size) : KTy e a c := fun z hz hn => by
 have h1 := h z hz hn
 rw [← h1]
 exact k z (Nat.lt_of_lt_of_le hz hs) (fun cs mk => by rw [h1]; exact hn cs mk)
theorem KTy.ofBelow {e : TypeId} {w w' : World} (hb : Below w.heap.size w w') : KTy e w w' := fun b h _ => hb.block b h
theorem KTy.below {e : TypeId} {w0 w w' : World} (h : KTy e w0 w) (hs : w0.heap.size ≤ w.heap.size) (hb : Below w.heap.size w w') : KTy e w0 w' := h.trans (KTy.ofBelow hb) hs
theorem KTy.kept {α : Type} {S : Shape α} {e : TypeId} {w0 w w' : World} {B : Nat} {u : Value} {m : List α} (h : KTy e w0 w) (hs : w0.heap.size ≤ w.heap.size) (ho : OwnL S w B u m) (he : S.tE = e) (hk : KeptBut w w' u) : KTy e w0 w' := by
 refine h.trans (fun b hb hn => hk b hb fun hu => ?_) hs
 obtain ⟨cur, hc⟩ := own_block ho hu
 rw [he] at hc
 exact hn _ _ hc
theorem KTy.new {e : TypeId} {w0 w w' : World} {u : Value} (h : KTy e w0 w) (hs : w0.heap.size ≤ w.heap.size) (hu : ∀ b, u.ownBlock = some b → w0.heap.size ≤ b) (hk : KeptBut w w' u) : KTy e w0 w' := fun b hb hn => by
 rw [hk b (Nat.lt_of_lt_of_le hb hs) (fun e => by have := hu b e; omega)]
 exact h b hb hn
theorem KTy.blk {e t : TypeId} {w w' : World} {g : Nat} {cs : Array Value} (h : KTy e w w') (hb : w.heap[g]? = some (.cells cs t (0, 0))) (hne : t ≠ e) : w'.heap[g]? = some (.cells cs t (0, 0)) := by
 have hlt : g < w.heap.size := by
  rcases Nat.lt_or_ge g w.heap.size with h | h
  ·exact h
  ·rw [Array.getElem?_eq_none h] at hb; cases hb
 rw [h g hlt (fun cs' mk e2 => by rw [hb] at e2; injection e2 with e2; injection e2 with _ e3; exact hne e3)]
 exact hb
structure SlV where
 a : Option Addr
 n : Nat
 c : Nat
def SlV.val (s : SlV) : Value := .slice s.a s.n s.c
def updC {α : Type} (C : Nat → List α) (q : Nat) (l : List α) : Nat → List α := fun p => if p = q then l else C p
theorem updC_same {α : Type} (C : Nat → List α) (q : Nat) (l : List α) : updC C q l q = l := by unfold updC; rw [if_pos rfl]
theorem updC_ne {α : Type} {C : Nat → List α} {p q : Nat} {l : List α} (h : p ≠ q) : updC C q l p = C p := by unfold updC; rw [if_neg h]
structure Many {α : Type} (S : Shape α) (w : World) (B : Nat) (s : List SlV) (C : Nat → List α) : Prop where
 own : ∀ (q : Nat) (t : SlV), s[q]? = some t → OwnL S w B t.val (C q)
 apart : ∀ (p q : Nat) (t u : SlV), s[p]? = some t → s[q]? = some u → p ≠ q → ∀ b, t.val.ownBlock = some b → u.val.ownBlock ≠ some b
section
variable {α : Type} {S : Shape α} {w w' : World} {B : Nat} {s g : List SlV} {C D O : Nat → List α}
theorem Many.below (h : Many S w B s C) (hb : Below w.heap.size w w') : Many S w' B s C := ⟨fun q t ht => (h.own q t ht).below hb, h.apart⟩
theorem Many.keptL {β : Type} {T : Shape β} {B2 : Nat} {u : Value} {m : List β} (h : Many S w B s C) (hu : OwnL T w B2 u m) (hne : S.tE ≠ T.tE) (hk : KeptBut w w' u) : Many S w' B s C :=
 ⟨fun q t ht => (h.own q t ht).keptL hu hne hk, h.apart⟩
theorem Many.len (h : Many S w B s C) {q : Nat} {t : SlV} (ht : s[q]? = some t) : t.n = (C q).length := by
 obtain ⟨A, cap, e, _⟩ := (h.own q t ht).form
 unfold SlV.val at e
 injection e with _ e2 _
theorem Many.put (hS1 : S.size = 1) (h : Many S w B s C) {q b n c : Nat} (ht : s[q]? = some ⟨some ⟨b, 0, none⟩, n, c⟩) (j : Nat) (x : α) (e : Value) (he : S.enc x = [e]) (h1 : ∀ y, ∃ v, S.enc y = [v]) (hj : j < (C q).length) :
  Many S (w.setCell ⟨b, j, none⟩ e) B s (updC C q ((C q).set j x)) := by
 have ho := h.own q _ ht
 have hn := h.len ht
 simp only [] at hn
 subst hn
 have hset : ∀ (l : List α) (j : Nat), (S.cells l).set j e = S.cells (l.set j x) := by
  intro l
  induction l with
  | nil => intro j; simp [Shape.cells]
  | cons y l ih =>
   intro j
   obtain ⟨v, hv⟩ := h1 y
   have e1 : S.cells (y :: l) = v :: S.cells l := by simp [Shape.cells, hv]
   cases j with
   | zero =>
    have e2 : S.cells (x :: l) = e :: S.cells l := by simp [Shape.cells, he]
    rw [e1, List.set_cons_zero, List.set_cons_zero, e2]
   | succ j =>
    have e2 : S.cells (y :: l.set j x) = v :: S.cells (l.set j x) := by simp [Shape.cells, hv]
    rw [e1, List.set_cons_succ, List.set_cons_succ, e2, ih]
 have hst := World.ownsRow.stored (show w.ownsRow B S.tE S.size (.slice (some ⟨b, 0, none⟩) (C q).length c) (C q).length (S.cells (C q)) from ho) j e
 refine ⟨fun p t hp => ?_, h.apart⟩
 by_cases hpq : p = q
 ·subst hpq
  rw [ht] at hp
  injection hp with hp
  subst hp
  rw [updC_same]
  unfold OwnL
  rw [List.length_set, ← hset]
  exact hst.1
 ·rw [updC_ne hpq]
  refine (h.own p t hp).keptNe (u := .slice (some ⟨b, 0, none⟩) (C q).length c) (fun k hk hne => hst.2.block k hk (fun e => hne e.symm)) fun k hk => ?_
  exact h.apart p q t _ hp ht hpq k hk
structure Grown (S : Shape α) (w : World) (B : Nat) (s g : List SlV) (O D : Nat → List α) : Prop where
 many : Many S w B g D
 len : g.length = s.length
 old : ∀ (q : Nat) (t : SlV), s[q]? = some t → t.n = (O q).length ∧ ∀ j x, (O q)[j]? = some x → ∃ b v, t.a = some ⟨b, 0, none⟩ ∧ b < w.heap.size ∧ S.enc x = [v] ∧ w.cell? ⟨b, j, none⟩ = some v
 lt : ∀ (q : Nat) (t : SlV), s[q]? = some t → ∀ b, t.val.ownBlock = some b → b < w.heap.size
 apart : ∀ (p q : Nat) (t u : SlV), s[p]? = some t → g[q]? = some u → p ≠ q → ∀ b, t.val.ownBlock = some b → u.val.ownBlock ≠ some b
 pre : ∀ q : Nat, (O q).length ≤ (D q).length
theorem Grown.below (h : Grown S w B s g O D) (hb : Below w.heap.size w w') : Grown S w' B s g O D := by
 refine ⟨h.many.below hb, h.len, fun q t ht => ⟨(h.old q t ht).1, fun j x hx => ?_⟩, fun q t ht b hb2 => Nat.lt_of_lt_of_le (h.lt q t ht b hb2) hb.size, h.apart, h.pre⟩
 obtain ⟨b, v, h1, h2, h3, h4⟩ := (h.old q t ht).2 j x hx
 exact ⟨b, v, h1, Nat.lt_of_lt_of_le h2 hb.size, h3, (hb.cell h2).trans h4⟩
theorem Grown.step (hS1 : S.size = 1) (h : Grown S w B s g O D) {q : Nat} {u : SlV} (hq : g[q]? = some u) (nv : SlV) (x : α) (hown : OwnL S w' B nv.val (D q ++ [x])) (hk : KeptBut w w' u.val)
  (hb : u.val.ownBlock = nv.val.ownBlock ∨ nv.val.ownBlock = some w.heap.size) (hsz : w.heap.size ≤ w'.heap.size) (hc : CellsTo w w' u.val ((D q).length * S.size)) :
  Grown S w' B s (g.set q nv) O (updC D q (D q ++ [x])) := by
 have hql : q < g.length := by
  rcases Nat.lt_or_ge q g.length with h | h
  ·exact h
  ·rw [List.getElem?_eq_none h] at hq; cases hq
 have hset : ∀ p t, (g.set q nv)[p]? = some t → (p = q ∧ t = nv) ∨ (p ≠ q ∧ g[p]? = some t) := by
  intro p t hp
  by_cases hpq : p = q
  ·subst hpq
   rw [List.getElem?_set_self hql] at hp
   injection hp with hp
   exact Or.inl ⟨rfl, hp.symm⟩
  ·rw [List.getElem?_set_ne (fun e => hpq e.symm)] at hp
   exact Or.inr ⟨hpq, hp⟩
 refine ⟨⟨fun p t hp => ?_, fun p r t v hp hr hpr b hbt => ?_⟩, by rw [List.length_set]; exact h.len, fun p t ht => ⟨(h.old p t ht).1, fun j y hy => ?_⟩, fun p t ht b hb2 => Nat.lt_of_lt_of_le (h.lt p t ht b hb2) hsz, fun p r t v ht hr hpr b hbt => ?_, fun p => ?_⟩
 ·rcases hset p t hp with ⟨rfl, rfl⟩ | ⟨hpq, hp⟩
  ·rw [updC_same]; exact hown
  ·rw [updC_ne hpq]
   exact (h.many.own p t hp).keptNe hk (h.many.apart p q t u hp hq hpq)
 ·rcases hset p t hp with ⟨rfl, rfl⟩ | ⟨hpq, hp'⟩ <;> rcases hset r v hr with ⟨rfl, rfl⟩ | ⟨hrq, hr'⟩
  ·exact absurd rfl hpr
  ·rcases hb with hb | hb
   ·exact h.many.apart p r u v hq hr' hpr b (hb.trans hbt)
   ·intro e
    have := ((h.many.own r v hr').lt b e).2
    rw [hb] at hbt
    injection hbt with hbt
    omega
  ·rcases hb with hb | hb
   ·intro e
    exact h.many.apart p r t u hp' hq hpr b hbt (hb.trans e)
   ·intro e
    have := ((h.many.own p t hp').lt b hbt).2
    rw [hb] at e
    injection e with e
    omega
  ·exact h.many.apart p r t v hp' hr' hpr b hbt
 ·obtain ⟨b, v, h1, h2, h3, h4⟩ := (h.old p t ht).2 j y hy
  refine ⟨b, v, h1, Nat.lt_of_lt_of_le h2 hsz, h3, (hc b j h2 fun hbu => ?_).trans h4⟩
  by_cases hpq : p = q
  ·subst hpq
   have hj : j < (O p).length := by
    rcases Nat.lt_or_ge j (O p).length with h | h
    ·exact h
    ·rw [List.getElem?_eq_none h] at hy; cases hy
   have := h.pre p
   rw [hS1]; omega
  ·exact absurd hbu (h.apart p q t u ht hq hpq b (by unfold SlV.val; rw [h1]; rfl))
 ·rcases hset r v hr with ⟨rfl, rfl⟩ | ⟨hrq, hr⟩
  ·rcases hb with hb | hb
   ·intro e
    exact h.apart p r t u ht hq hpr b hbt (hb.trans e)
   ·intro e
    have := h.lt p t ht b hbt
    rw [hb] at e
    injection e with e
    omega
  ·exact h.apart p r t v ht hr hpr b hbt
 ·by_cases hpq : p = q
  ·subst hpq
   rw [updC_same, List.length_append]
   have := h.pre p
   omega
  ·rw [updC_ne hpq]; exact h.pre p
theorem Grown.start (h1 : ∀ y, ∃ v, S.enc y = [v]) (hS1 : S.size = 1) (h : Many S w B s C) : Grown S w B s s C C := by
 refine ⟨h, rfl, fun q t ht => ⟨h.len ht, fun j x hx => ?_⟩, fun q t ht b hb => ((h.own q t ht).lt b hb).2, fun p q t u hp hq hpq => h.apart p q t u hp hq hpq, fun q => Nat.le_refl _⟩
 have hj : j < (C q).length := by
  rcases Nat.lt_or_ge j (C q).length with h | h
  ·exact h
  ·rw [List.getElem?_eq_none h] at hx; cases hx
 obtain ⟨A, cap, e, _, _, hc⟩ := (h.own q t ht).open_
 obtain ⟨b, hA, _, hlt, hcell⟩ := hc j 0 hj (by omega)
 obtain ⟨v, hv⟩ := h1 x
 have ea : t.a = A := by unfold SlV.val at e; injection e
 refine ⟨b, v, ea.trans hA, hlt, hv, ?_⟩
 have := hcell v (by
  unfold Shape.cells
  have he : ∀ (l : List α) (k : Nat), (l.flatMap S.enc)[k * S.size + 0]? = (l[k]?.map fun y => (S.enc y)).bind fun z => z[0]? := by
   intro l
   induction l with
   | nil => intro k; simp
   | cons y l ih =>
    intro k
    obtain ⟨v', hv'⟩ := h1 y
    rw [hS1] at ih ⊢
    cases k with
    | zero => simp [hv']
    | succ k => simpa [hv'] using ih k
  rw [he, hx]
  simp [hv])
 rw [hS1, Nat.mul_one, Nat.add_zero] at this
 exact this
theorem Grown.keptL {β : Type} {T : Shape β} {B2 : Nat} {u : Value} {m : List β} (h : Grown S w B s g O D) (hu : OwnL T w B2 u m) (hne : S.tE ≠ T.tE) (hk : KeptBut w w' u) (hsz : w.heap.size ≤ w'.heap.size)
  (ho : ∀ (q : Nat) (t : SlV), s[q]? = some t → ∀ b, t.val.ownBlock = some b → u.ownBlock ≠ some b) : Grown S w' B s g O D := by
 refine ⟨h.many.keptL hu hne hk, h.len, fun q t ht => ⟨(h.old q t ht).1, fun j x hx => ?_⟩, fun q t ht b hb2 => Nat.lt_of_lt_of_le (h.lt q t ht b hb2) hsz, h.apart, h.pre⟩
 obtain ⟨b, v, h1, h2, h3, h4⟩ := (h.old q t ht).2 j x hx
 refine ⟨b, v, h1, Nat.lt_of_lt_of_le h2 hsz, h3, (World.cell?_of_block (hk b h2 ?_)).trans h4⟩
 exact ho q t ht b (by unfold SlV.val; rw [h1]; rfl)
end
def markA (i j : Int) : Int := IntKind.u64.wrap (IntKind.u64.wrap (IntKind.u64.wrap (wrap64 (i + 1)) * 11400714819323198485) + IntKind.u64.wrap (IntKind.u64.wrap (wrap64 (j + 1)) * 13787848793156543929))
def markF (i j : Int) : Int := wrap64 (wrap64 (IntKind.u64.wrap (bits BinOp.xor IntKind.u64 (markA i j) (markA i j / 536870912) * 10723151780598845931) / 8589934592) + 1)
theorem Mark_any (i j : Int) (w : World) : Calls Tryd.prog 39 #[.int .i64 i, .int .i64 j] w fun e w' => e = .returned (.int .i64 (markF i j)) ∧ w' = w := by
 go_enter Tryd.func39, Tryd.ntmps39
 go_wp2
 go_ret
 exact ⟨rfl, rfl⟩
def marks (i : Nat) (n : Nat) : List Int := (List.range n).map fun (j : Nat) => markF (i : Int) (j : Int)
theorem marks_len (i n : Nat) : (marks i n).length = n := by simp [marks]
theorem marks_get (i n j : Nat) (h : j < n) : (marks i n)[j]? = some (markF (i : Int) (j : Int)) := by simp [marks, h]
theorem marks_succ (i n : Nat) : marks i (n + 1) = marks i n ++ [markF (i : Int) (n : Int)] := by simp [marks, List.range_succ]
end Go.Proofs.YthcldpminmhgkaaDoor
end
