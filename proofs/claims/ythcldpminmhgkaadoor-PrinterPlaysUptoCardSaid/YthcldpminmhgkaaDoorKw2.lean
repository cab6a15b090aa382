/- Merged for a claim by shake.py: Errs Ht Pi -/
import Derived.Test.YthcldpminmhgkaaDoorKwA
import Derived.Deep.RegionHeldLaw
import Derived.KernelRfl
import Derived.LaidEql
import Derived.LaidLaws
import Derived.LaidSub
import Derived.Laws.Entries
import Derived.RegionTactic
import Derived.Test.YthcldpminmhgkaaDoorKw1
import Derived.Test.YthcldpminmhgkaaDoorProg
import Derived.Test.YthcldpminmhgkaaDoorRows
set_option maxRecDepth 100000
set_option maxHeartbeats 1000000
set_option linter.unusedSimpArgs false
section
namespace Go.Proofs.YthcldpminmhgkaaDoor
open Go.RowKit
theorem ecellsErr : Tryd.prog.cellsOf 160 = 1 := by kernel_rfl
theorem ecellsStr : Tryd.prog.cellsOf 9 = 1 := by kernel_rfl
theorem estarErr : "*" ++ "errors.errorString" = "*errors.errorString" := by decide
theorem erowErr (u : TypeId) (h : Tryd.prog.typeName? 3 u = some "*errors.errorString") : u = 144 :=
 typeName_ptr_named (nm := "errors.errorString") (by rw [estarErr]; kernel_rfl) (by kernel_rfl) (by decide) u (by rw [estarErr]; exact h)
def errV (a : Addr) : Value := .iface 144 (.pointer (some a))
def ErrsAt (w : World) : List Nat → List Addr → Prop
 | [], [] => True
 | g :: gs, a :: ea => w.cell? ⟨g, 0, none⟩ = some (errV a) ∧ (∃ c t, w.heap[a.block]? = some (.cells c t (0, 0))) ∧ ErrsAt w gs ea
 | _, _ => False
def errRow {H : Type} (l : List UInt8) : DataW H := .iface "*errors.errorString" (.ptr (.agg [.lit (.string l)]))
theorem errsAt_of {W : World} : ∀ (rows : List (String × List UInt8)) (gs : List Nat) (ps : List MemPlace), rows.map (fun x => Tryd.prog.globalNamed x.1) = gs.map some → (∀ g ∈ gs, (Tryd.prog.globals[g]?).map (·.type) = some 35) →
  DataW.LaidVars Tryd.prog W (rows.map fun x => (x.1, errRow x.2)) ps → ps.Nodup → (∀ b off, MemPlace.cell b off ∈ ps → (∃ c t, W.heap[b]? = some (.cells c t (0, 0))) ∧ ∀ u v, W.cell? ⟨b, off, none⟩ = some (.iface u v) → Value.okWide Tryd.prog W .any 0 u v) →
  ∃ ea : List Addr, ErrsAt W gs ea ∧ ea.Nodup ∧ ea.length = gs.length ∧ ∀ a ∈ ea, MemPlace.cell a.block a.off ∈ ps
 | [], [], ps, _, _, _, _, _ => ⟨[], trivial, List.nodup_nil, rfl, fun _ h => by cases h⟩
 | [], g :: gs, ps, h, _, _, _, _ => by cases h
 | x :: rows, [], ps, h, _, _, _, _ => by cases h
 | x :: rows, g :: gs, ps, hg, ht, hl, hnd, hrows => by
  simp only [List.map_cons, List.cons.injEq] at hg
  obtain ⟨hg0, hgs⟩ := hg
  obtain ⟨g0, t0, cs0, f0, p0, q0, hg0', ht0, hv0, hd0, hrest, e0⟩ := hl
  obtain rfl : g = g0 := Option.some.inj (hg0.symm.trans hg0')
  obtain rfl := Option.some.inj ((ht g List.mem_cons_self).symm.trans ht0)
  subst e0
  obtain ⟨l0⟩ := cs0
  have ok0 : ∀ u v, l0 = [.iface u v] → Value.okWide Tryd.prog W .any 0 u v := fun u v e => by
   subst e
   exact (hrows g 0 (by simp [MemPlace.row])).2 u v (by simpa using World.var?_cell hg0' hv0 0)
  obtain ⟨a0, s0, rfl, hc0, hs0, hz0, rfl⟩ := errorString_of_trod Tryd.underlying35 erowErr Tryd.underlying144 Tryd.underlying160 rfl rfl Tryd.underlying9 ecellsErr ecellsStr hd0 ok0
  have hblk := (hrows a0.block a0.off (by simp [MemPlace.row])).1
  have hc : W.cell? ⟨g, 0, none⟩ = some (errV a0) := by simpa [errV] using World.var?_cell hg0' hv0 0
  have hq : ∀ x ∈ q0, x ∈ MemPlace.row ⟨g, 0, none⟩ (Array.mk [Value.iface 144 (.pointer (some a0))]).size ++ MemPlace.row a0 1 ++ q0 := fun x hx => by simp [hx]
  obtain ⟨ea, h1, h2, h3, h4⟩ := errsAt_of rows gs q0 hgs (fun g' h => ht g' (List.mem_cons_of_mem _ h)) hrest (List.nodup_append.1 hnd).2.1 (fun b off hp => hrows b off (hq _ hp))
  refine ⟨a0 :: ea, ⟨hc, hblk, h1⟩, List.nodup_cons.2 ⟨fun hm => ?_, h2⟩, by rw [List.length_cons, List.length_cons, h3], fun a ha => ?_⟩
  ·have := (List.nodup_append.1 hnd).2.2 (MemPlace.cell a0.block a0.off) (by simp [MemPlace.row]) _ (h4 a0 hm)
   exact this rfl
  ·rw [List.mem_cons] at ha
   rcases ha with rfl | ha
   ·simp [MemPlace.row]
   ·exact hq _ (h4 a ha)
def errGs : List Nat := [2, 3, 4, 5, 6, 7, 8, 9, 10, 11, 12, 13, 14, 15, 16, 1, 18, 0, 19, 20, 21, 22, 23, 24]
structure ErrEnv (w : World) (ea : List Addr) : Prop where
 at_ : ErrsAt w errGs ea
 nodup : ea.Nodup
 len : ea.length = 24
theorem ErrsAt.get {w : World} : ∀ {gs : List Nat} {ea : List Addr}, ErrsAt w gs ea → ∀ (i : Nat) (h : i < ea.length), w.cell? ⟨gs.getD i 0, 0, none⟩ = some (errV ea[i]) ∧ ∃ c t, w.heap[ea[i].block]? = some (.cells c t (0, 0))
 | [], [], _, i, hi => by cases hi
 | [], a :: ea, h, i, hi => h.elim
 | g :: gs, [], h, i, hi => h.elim
 | g :: gs, a :: ea, h, 0, _ => ⟨h.1, h.2.1⟩
 | g :: gs, a :: ea, h, i + 1, hi => by
  have := ErrsAt.get h.2.2 i (by simpa using hi)
  simpa [List.getD] using this
theorem ErrsAt.below {w w' : World} (hb : Below w.heap.size w w') : ∀ {gs : List Nat} {ea : List Addr}, ErrsAt w gs ea → ErrsAt w' gs ea
 | [], [], _ => trivial
 | [], a :: ea, h => h.elim
 | g :: gs, [], h => h.elim
 | g :: gs, a :: ea, h => by
  obtain ⟨c, t, hh⟩ := h.2.1
  refine ⟨(hb.cell (p := ⟨g, 0, none⟩) (World.block_lt_of_cell? w ⟨g, 0, none⟩ h.1)).trans h.1, ⟨c, t, ?_⟩, ErrsAt.below hb h.2.2⟩
  have hlt : a.block < w.heap.size := by
   rcases Nat.lt_or_ge a.block w.heap.size with h | h
   ·exact h
   ·rw [Array.getElem?_eq_none h] at hh; cases hh
  rw [hb.block _ hlt]; exact hh
theorem ErrEnv.below {w w' : World} {ea : List Addr} (h : ErrEnv w ea) (hb : Below w.heap.size w w') : ErrEnv w' ea := ⟨h.at_.below hb, h.nodup, h.len⟩
def errI (ea : List Addr) (i : Nat) : Value := errV (ea.getD i ⟨0, 0, none⟩)
theorem ErrEnv.cell {w : World} {ea : List Addr} (h : ErrEnv w ea) (i : Nat) (hi : i < 24) : w.cell? ⟨errGs.getD i 0, 0, none⟩ = some (errI ea i) := by
 have := (h.at_.get i (by rw [h.len]; exact hi)).1
 rw [this]; unfold errI
 rw [List.getD_eq_getElem?_getD, List.getElem?_eq_getElem (by rw [h.len]; exact hi)]; rfl
theorem einfoP : (Tryd.prog.info? 144).map (·.comparable) = some true := by kernel_rfl
theorem einfoS : (Tryd.prog.info? 160).map (fun i => decide (i.size ≠ 0)) = some true := by kernel_rfl
theorem errI_eq {w : World} {ea : List Addr} (h : ErrEnv w ea) (i j : Nat) (hi : i < 24) (hj : j < 24) : (binOp .eql 35 (errI ea i) (errI ea j)).run Tryd.prog w = .ok (.bool (decide (i = j))) w := by
 obtain ⟨p, hp, hc⟩ := Option.map_eq_some_iff.1 einfoP
 obtain ⟨q, hq, hz⟩ := Option.map_eq_some_iff.1 einfoS
 by_cases hij : i = j
 ·subst hij
  rw [decide_eq_true rfl]
  exact run_eql_iface_ptr_same w _ Tryd.underlying35 Tryd.underlying144 hp hc hq
 ·rw [decide_eq_false hij]
  have hi' : i < ea.length := by rw [h.len]; exact hi
  have hj' : j < ea.length := by rw [h.len]; exact hj
  obtain ⟨_, ca, ta, ha⟩ := h.at_.get i hi'
  obtain ⟨_, cb, tb, hb⟩ := h.at_.get j hj'
  have hne : ea[i] ≠ ea[j] := fun e => hij ((List.getElem_inj h.nodup).1 e)
  have e1 : errI ea i = errV ea[i] := by unfold errI; rw [List.getD_eq_getElem?_getD, List.getElem?_eq_getElem hi']; rfl
  have e2 : errI ea j = errV ea[j] := by unfold errI; rw [List.getD_eq_getElem?_getD, List.getElem?_eq_getElem hj']; rfl
  rw [e1, e2]
  exact run_eql_iface_ptr_other w Tryd.underlying35 Tryd.underlying144 hp hc hq (of_decide_eq_true hz) hne ha hb
theorem errI_nil (ea : List Addr) (i : Nat) (W : World) : (binOp .eql 35 (errI ea i) .nilIface).run Tryd.prog W = .ok (.bool false) W := by
 have h : ∀ d : Nat, (Op.equalIn (d + 1) 35 (errI ea i) .nilIface).run Tryd.prog W = .ok false W := fun d => by simp [errI, errV, Op.equalIn, run_underlying Tryd.underlying35]
 simp only [binOp]
 simp [Op.equal, Op.maxDepth, h 9999]
theorem errI_nnil (ea : List Addr) (i : Nat) (W : World) : (binOp .neq 35 (errI ea i) .nilIface).run Tryd.prog W = .ok (.bool true) W := by
 have h : ∀ d : Nat, (Op.equalIn (d + 1) 35 (errI ea i) .nilIface).run Tryd.prog W = .ok false W := fun d => by simp [errI, errV, Op.equalIn, run_underlying Tryd.underlying35]
 simp only [binOp]
 simp [Op.equal, Op.maxDepth, h 9999]
theorem errI_guard (ea : List Addr) (i j : Nat) (op : BinOp) (x y : Operand) (W : World) : (eqGuard op 35 x y (errI ea i) (errI ea j)).run Tryd.prog W = .ok () W := by
 cases op <;> simp [errI, errV, eqGuard, go_sem, Op.eqGuardIn, Op.maxDepth, run_underlying Tryd.underlying35]
theorem errI_guard0 (ea : List Addr) (i : Nat) (op : BinOp) (x y : Operand) (W : World) : (eqGuard op 35 x y (errI ea i) .nilIface).run Tryd.prog W = .ok () W := by
 cases op <;> simp [errI, errV, eqGuard, go_sem, Op.eqGuardIn, Op.maxDepth, run_underlying Tryd.underlying35]
def errRows : List (String × List UInt8) := [("concord/api.ErrShort", [99, 111, 110, 99, 111, 114, 100, 58, 32, 116, 111, 111, 32, 115, 104, 111, 114, 116]), ("concord/api.ErrVarint", [99, 111, 110, 99, 111, 114, 100, 58, 32, 118, 97, 114, 105, 110, 116]), ("concord/api.ErrLimit", [99, 111, 110, 99, 111, 114, 100, 58, 32, 108, 105, 109, 105, 116]), ("concord/api.ErrOrder", [99, 111, 110, 99, 111, 114, 100, 58, 32, 111, 114, 100, 101, 114]), ("concord/api.ErrTail", [99, 111, 110, 99, 111, 114, 100, 58, 32, 116, 97, 105, 108]), ("concord/api.ErrTag", [99, 111, 110, 99, 111, 114, 100, 58, 32, 116, 97, 103]), ("concord/api.ErrSum", [99, 111, 110, 99, 111, 114, 100, 58, 32, 115, 117, 109]), ("concord/api.ErrRange", [99, 111, 110, 99, 111, 114, 100, 58, 32, 114, 97, 110, 103, 101]), ("concord/api.ErrSize", [99, 111, 110, 99, 111, 114, 100, 58, 32, 115, 105, 122, 101]), ("concord/api.ErrCorrupt", [99, 111, 110, 99, 111, 114, 100, 58, 32, 99, 111, 114, 114, 117, 112, 116]), ("concord/api.ErrSchema", [99, 111, 110, 99, 111, 114, 100, 58, 32, 115, 99, 104, 101, 109, 97]), ("concord/api.ErrField", [99, 111, 110, 99, 111, 114, 100, 58, 32, 102, 105, 101, 108, 100]), ("concord/api.ErrValue", [99, 111, 110, 99, 111, 114, 100, 58, 32, 118, 97, 108, 117, 101]), ("concord/api.ErrPattern", [99, 111, 110, 99, 111, 114, 100, 58, 32, 112, 97, 116, 116, 101, 114, 110]), ("concord/api.ErrStates", [99, 111, 110, 99, 111, 114, 100, 58, 32, 115, 116, 97, 116, 101, 115]), ("concord/api.ErrSyntax", [99, 111, 110, 99, 111, 114, 100, 58, 32, 115, 121, 110, 116, 97, 120]), ("concord/api.ErrDeep", [99, 111, 110, 99, 111, 114, 100, 58, 32, 116, 111, 111, 32, 100, 101, 101, 112]), ("concord/api.ErrNode", [99, 111, 110, 99, 111, 114, 100, 58, 32, 110, 111, 100, 101]), ("concord/api.ErrTerms", [99, 111, 110, 99, 111, 114, 100, 58, 32, 116, 111, 111, 32, 109, 97, 110, 121, 32, 116, 101, 114, 109, 115]), ("concord/api.ErrScore", [99, 111, 110, 99, 111, 114, 100, 58, 32, 115, 99, 111, 114, 101, 32, 111, 118, 101, 114, 102, 108, 111, 119]), ("concord/api.ErrCode", [99, 111, 110, 99, 111, 114, 100, 58, 32, 99, 111, 100, 101]), ("concord/api.ErrFuel", [99, 111, 110, 99, 111, 114, 100, 58, 32, 102, 117, 101, 108]), ("concord/api.ErrDoc", [99, 111, 110, 99, 111, 114, 100, 58, 32, 100, 111, 99, 117, 109, 101, 110, 116]), ("concord/api.ErrCommand", [99, 111, 110, 99, 111, 114, 100, 58, 32, 99, 111, 109, 109, 97, 110, 100])]
theorem errEnv_of_rows {W : World} (h : laidMet Tryd.prog (errRows.map fun x => (x.1, errRow x.2)) W) : ∃ ea, ErrEnv W ea := by
 obtain ⟨ps, h1, h2, h3⟩ := h
 obtain ⟨ea, g1, g2, g3, _⟩ := errsAt_of errRows errGs ps (by kernel_rfl) (by
  have h : errGs.all (fun g => (Tryd.prog.globals[g]?).map (·.type) == some 35) = true := by kernel_rfl
  intro g hg
  exact beq_iff_eq.1 (List.all_eq_true.1 h g hg)) h1 h2 h3
 exact ⟨ea, g1, g2, g3⟩
theorem errEnv_of {W : World} {l : List (String × DataW Unit)} (h : laidMet Tryd.prog l W) (e : l.filter (fun x => (errRows.map (·.1)).contains x.1) = errRows.map fun x => (x.1, errRow x.2)) : ∃ ea, ErrEnv W ea := by
 have := h.filter (fun x => (errRows.map (·.1)).contains x.1)
 rw [e] at this
 exact errEnv_of_rows this
theorem Num_nil (w : World) : Calls Tryd.prog 27 #[.nilIface] w fun e w' => e = .returned (.int .i64 0) ∧ w = w' := by
 go_enter Tryd.func27, Tryd.ntmps27
 go_wp2
 go_ret
 exact ⟨rfl, rfl⟩
theorem more_17 (ea : List Addr) (w : World) (h : ErrEnv w ea) : Calls Tryd.prog 46 #[errI ea 17] w fun e w' => e = .returned (.int .i64 18) ∧ w = w' := by
 have c15 : w.cell? ⟨1, 0, none⟩ = some (errI ea 15) := h.cell 15 (by omega)
 have q15 : (binOp .eql 35 (errI ea 17) (errI ea 15)).run Tryd.prog w = .ok (.bool false) w := errI_eq h 17 15 (by omega) (by omega)
 have c16 : w.cell? ⟨18, 0, none⟩ = some (errI ea 16) := h.cell 16 (by omega)
 have q16 : (binOp .eql 35 (errI ea 17) (errI ea 16)).run Tryd.prog w = .ok (.bool false) w := errI_eq h 17 16 (by omega) (by omega)
 have c17 : w.cell? ⟨0, 0, none⟩ = some (errI ea 17) := h.cell 17 (by omega)
 have q17 : (binOp .eql 35 (errI ea 17) (errI ea 17)).run Tryd.prog w = .ok (.bool true) w := errI_eq h 17 17 (by omega) (by omega)
 have n0 := errI_nil ea 17 w
 have n1 := fun op x y => errI_guard0 ea 17 op x y w
 have n2 := fun j op x y => errI_guard ea 17 j op x y w
 clear h
 go_enter Tryd.func46, Tryd.ntmps46
 go_wp2
 go_ret
 exact ⟨rfl, rfl⟩
theorem Num_17 (ea : List Addr) (w : World) (h : ErrEnv w ea) : Calls Tryd.prog 27 #[errI ea 17] w fun e w' => e = .returned (.int .i64 18) ∧ w = w' := by
 have c0 : w.cell? ⟨2, 0, none⟩ = some (errI ea 0) := h.cell 0 (by omega)
 have q0 : (binOp .eql 35 (errI ea 17) (errI ea 0)).run Tryd.prog w = .ok (.bool false) w := errI_eq h 17 0 (by omega) (by omega)
 have c1 : w.cell? ⟨3, 0, none⟩ = some (errI ea 1) := h.cell 1 (by omega)
 have q1 : (binOp .eql 35 (errI ea 17) (errI ea 1)).run Tryd.prog w = .ok (.bool false) w := errI_eq h 17 1 (by omega) (by omega)
 have c2 : w.cell? ⟨4, 0, none⟩ = some (errI ea 2) := h.cell 2 (by omega)
 have q2 : (binOp .eql 35 (errI ea 17) (errI ea 2)).run Tryd.prog w = .ok (.bool false) w := errI_eq h 17 2 (by omega) (by omega)
 have c3 : w.cell? ⟨5, 0, none⟩ = some (errI ea 3) := h.cell 3 (by omega)
 have q3 : (binOp .eql 35 (errI ea 17) (errI ea 3)).run Tryd.prog w = .ok (.bool false) w := errI_eq h 17 3 (by omega) (by omega)
 have c4 : w.cell? ⟨6, 0, none⟩ = some (errI ea 4) := h.cell 4 (by omega)
 have q4 : (binOp .eql 35 (errI ea 17) (errI ea 4)).run Tryd.prog w = .ok (.bool false) w := errI_eq h 17 4 (by omega) (by omega)
 have c5 : w.cell? ⟨7, 0, none⟩ = some (errI ea 5) := h.cell 5 (by omega)
 have q5 : (binOp .eql 35 (errI ea 17) (errI ea 5)).run Tryd.prog w = .ok (.bool false) w := errI_eq h 17 5 (by omega) (by omega)
 have c6 : w.cell? ⟨8, 0, none⟩ = some (errI ea 6) := h.cell 6 (by omega)
 have q6 : (binOp .eql 35 (errI ea 17) (errI ea 6)).run Tryd.prog w = .ok (.bool false) w := errI_eq h 17 6 (by omega) (by omega)
 have c7 : w.cell? ⟨9, 0, none⟩ = some (errI ea 7) := h.cell 7 (by omega)
 have q7 : (binOp .eql 35 (errI ea 17) (errI ea 7)).run Tryd.prog w = .ok (.bool false) w := errI_eq h 17 7 (by omega) (by omega)
 have c8 : w.cell? ⟨10, 0, none⟩ = some (errI ea 8) := h.cell 8 (by omega)
 have q8 : (binOp .eql 35 (errI ea 17) (errI ea 8)).run Tryd.prog w = .ok (.bool false) w := errI_eq h 17 8 (by omega) (by omega)
 have c9 : w.cell? ⟨11, 0, none⟩ = some (errI ea 9) := h.cell 9 (by omega)
 have q9 : (binOp .eql 35 (errI ea 17) (errI ea 9)).run Tryd.prog w = .ok (.bool false) w := errI_eq h 17 9 (by omega) (by omega)
 have c10 : w.cell? ⟨12, 0, none⟩ = some (errI ea 10) := h.cell 10 (by omega)
 have q10 : (binOp .eql 35 (errI ea 17) (errI ea 10)).run Tryd.prog w = .ok (.bool false) w := errI_eq h 17 10 (by omega) (by omega)
 have c11 : w.cell? ⟨13, 0, none⟩ = some (errI ea 11) := h.cell 11 (by omega)
 have q11 : (binOp .eql 35 (errI ea 17) (errI ea 11)).run Tryd.prog w = .ok (.bool false) w := errI_eq h 17 11 (by omega) (by omega)
 have c12 : w.cell? ⟨14, 0, none⟩ = some (errI ea 12) := h.cell 12 (by omega)
 have q12 : (binOp .eql 35 (errI ea 17) (errI ea 12)).run Tryd.prog w = .ok (.bool false) w := errI_eq h 17 12 (by omega) (by omega)
 have c13 : w.cell? ⟨15, 0, none⟩ = some (errI ea 13) := h.cell 13 (by omega)
 have q13 : (binOp .eql 35 (errI ea 17) (errI ea 13)).run Tryd.prog w = .ok (.bool false) w := errI_eq h 17 13 (by omega) (by omega)
 have c14 : w.cell? ⟨16, 0, none⟩ = some (errI ea 14) := h.cell 14 (by omega)
 have q14 : (binOp .eql 35 (errI ea 17) (errI ea 14)).run Tryd.prog w = .ok (.bool false) w := errI_eq h 17 14 (by omega) (by omega)
 have n0 := errI_nil ea 17 w
 have n1 := fun op x y => errI_guard0 ea 17 op x y w
 have n2 := fun j op x y => errI_guard ea 17 j op x y w
 have H := LH h; clear h
 go_enter Tryd.func27, Tryd.ntmps27
 go_wp2_with fail
 refine (more_17 ea w H.out).mono ?_
 rintro e w' ⟨rfl, rfl⟩
 go_wp2
 go_ret
 exact ⟨rfl, rfl⟩
section
variable {P : Program} {md : Region.Mode} {ops : Array Oper} {Q : Exit → Act → World → Prop} {S : World → Prop}
end
end Go.Proofs.YthcldpminmhgkaaDoor
end
section
namespace Go.Proofs.YthcldpminmhgkaaDoor
open Go
section
variable {P : Program} {ops : Array Oper} {Q : Exit → Act → World → Prop} {md : Region.Mode}
def undone (listed : Array Bool) : Nat := listed.toList.count false
theorem undone_set {listed : Array Bool} {i : Nat} (hi : listed.getD i true = false) : undone (listed.setIfInBounds i true) + 1 = undone listed := by
 obtain ⟨l⟩ := listed
 unfold undone
 have hlt : i < l.length := by
  rcases Nat.lt_or_ge i l.length with h | h
  ·exact h
  ·exfalso; simp [Array.getD, Nat.not_lt.2 h] at hi
 have hv : l[i] = false := by simpa [Array.getD, hlt] using hi
 simp only [List.setIfInBounds_toArray]
 clear hi
 induction l generalizing i with
 | nil => exact absurd hlt (Nat.not_lt_zero _)
 | cons x l ih =>
  cases i with
  | zero =>
   have : x = false := hv
   subst this
   simp
  | succ i =>
   have h := ih (i := i) (by simpa using hlt) (by simpa using hv)
   simp only [List.set_cons_succ, List.count_cons]
   omega
theorem ready_false {listed : Array Bool} {i : Nat} (h : i ∈ Region.ready md ops listed) : listed.getD i true = false := by
 unfold Region.ready at h
 rw [List.mem_filter] at h
 have := h.2
 rw [Bool.and_eq_true] at this
 simpa using this.1
theorem wpAny_inv {Inv : Array Bool → Act → World → Prop}
  (hstep : ∀ (listed : Array Bool) (a : Act) (w : World) (i : Nat), Inv listed a w → i ∈ Region.ready md ops listed → wpOp P ops Q i (Inv (listed.setIfInBounds i true)) a w)
  (hend : ∀ (listed : Array Bool) (a : Act) (w : World), Inv listed a w → Region.ready md ops listed = [] → Q .normal a w) :
  ∀ (fuel : Nat) (listed : Array Bool) (a : Act) (w : World), Inv listed a w → undone listed ≤ fuel → wpAny P md ops Q fuel listed a w
 | 0, listed, a, w, h, hf => by
  have hr : Region.ready md ops listed = [] := by
   rcases hq : Region.ready md ops listed with _ | ⟨i, r⟩
   ·rfl
   ·have h1 := ready_false (md := md) (ops := ops) (listed := listed) (i := i) (by rw [hq]; exact List.mem_cons_self)
    have h2 := undone_set h1
    omega
  exact ⟨hr, hend _ _ _ h hr⟩
 | fuel + 1, listed, a, w, h, hf =>
  ⟨hend _ _ _ h, fun i hi => wpOp_mono (fun a' w' h' => wpAny_inv hstep hend fuel _ a' w' h' (by have := undone_set (ready_false hi); omega)) (hstep _ _ _ _ h hi)⟩
end
end Go.Proofs.YthcldpminmhgkaaDoor
end
