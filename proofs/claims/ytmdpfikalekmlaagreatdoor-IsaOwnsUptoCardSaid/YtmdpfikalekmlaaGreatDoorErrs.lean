/- The errors of package api: 24 variables, each with an error of its own; comparing them. -/
import Derived.Test.YtmdpfikalekmlaaGreatDoorRows
import Derived.Test.YtmdpfikalekmlaaGreatDoorProg
import Derived.Test.YtmdpfikalekmlaaGreatDoorBase
import Derived.KernelRfl
import Derived.LaidSub
import Derived.LaidLaws
import Derived.LaidEql
import Derived.Laws.Entries

namespace Go.Proofs.YtmdpfikalekmlaaGreatDoor
open Go.RowKit
set_option maxRecDepth 100000
set_option maxHeartbeats 1000000
set_option linter.unusedSimpArgs false

theorem ecellsErr : Tryz.prog.cellsOf 197 = 1 := by kernel_rfl
theorem ecellsStr : Tryz.prog.cellsOf 9 = 1 := by kernel_rfl
theorem estarErr : "*" ++ "errors.errorString" = "*errors.errorString" := by decide
theorem erowErr (u : TypeId) (h : Tryz.prog.typeName? 3 u = some "*errors.errorString") : u = 195 :=
  typeName_ptr_named (nm := "errors.errorString") (by rw [estarErr]; kernel_rfl) (by kernel_rfl) (by decide) u (by rw [estarErr]; exact h)
/-- The error at an address. -/
def errV (a : Addr) : Value := .iface 195 (.pointer (some a))
/-- Variables with an error each. -/
def ErrsAt (w : World) : List Nat → List Addr → Prop
  | [], [] => True
  | g :: gs, a :: ea => w.cell? ⟨g, 0, none⟩ = some (errV a) ∧ (∃ c t, w.heap[a.block]? = some (.cells c t (0, 0))) ∧ ErrsAt w gs ea
  | _, _ => False
def errRow {H : Type} (l : List UInt8) : DataW H := .iface "*errors.errorString" (.ptr (.agg [.lit (.string l)]))
theorem errsAt_of {W : World} : ∀ (rows : List (String × List UInt8)) (gs : List Nat) (ps : List MemPlace), rows.map (fun x => Tryz.prog.globalNamed x.1) = gs.map some → (∀ g ∈ gs, (Tryz.prog.globals[g]?).map (·.type) = some 30) →
    DataW.LaidVars Tryz.prog W (rows.map fun x => (x.1, errRow x.2)) ps → ps.Nodup → (∀ b off, MemPlace.cell b off ∈ ps → (∃ c t, W.heap[b]? = some (.cells c t (0, 0))) ∧ ∀ u v, W.cell? ⟨b, off, none⟩ = some (.iface u v) → Value.okWide Tryz.prog W .any 0 u v) →
    ∃ ea : List Addr, ErrsAt W gs ea ∧ ea.Nodup ∧ ea.length = gs.length ∧ ∀ a ∈ ea, MemPlace.cell a.block a.off ∈ ps
  | [], [], ps, _, _, _, _, _ => ⟨[], trivial, List.nodup_nil, rfl, fun _ h => by cases h⟩
  | [], g :: gs, ps, h, _, _, _, _ => by cases h
  | x :: rows, [], ps, h, _, _, _, _ => by cases h
  | x :: rows, g :: gs, ps, hg, ht, hl, hnd, hrows => by
    simp only [List.map_cons, List.cons.injEq] at hg
    obtain ⟨hg0, hgs⟩ := hg
    obtain ⟨g0, t0, cs0, f0, p0, q0, hg0', ht0, hv0, hd0, hrest, e0⟩ := hl
    obtain rfl : g = g0 := Option.some.inj (hg0.symm.trans hg0')
    obtain rfl := Option.some.inj ((ht g List.mem_cons_self).symm.trans ht0)
    subst e0
    obtain ⟨l0⟩ := cs0
    have ok0 : ∀ u v, l0 = [.iface u v] → Value.okWide Tryz.prog W .any 0 u v := fun u v e => by
      subst e
      exact (hrows g 0 (by simp [MemPlace.row])).2 u v (by simpa using World.var?_cell hg0' hv0 0)
    obtain ⟨a0, s0, rfl, hc0, hs0, hz0, rfl⟩ := errorString_of_trod Tryz.underlying30 erowErr Tryz.underlying195 Tryz.underlying197 rfl rfl Tryz.underlying9 ecellsErr ecellsStr hd0 ok0
    have hblk := (hrows a0.block a0.off (by simp [MemPlace.row])).1
    have hc : W.cell? ⟨g, 0, none⟩ = some (errV a0) := by simpa [errV] using World.var?_cell hg0' hv0 0
    have hq : ∀ x ∈ q0, x ∈ MemPlace.row ⟨g, 0, none⟩ (Array.mk [Value.iface 195 (.pointer (some a0))]).size ++ MemPlace.row a0 1 ++ q0 := fun x hx => by simp [hx]
    obtain ⟨ea, h1, h2, h3, h4⟩ := errsAt_of rows gs q0 hgs (fun g' h => ht g' (List.mem_cons_of_mem _ h)) hrest (List.nodup_append.1 hnd).2.1 (fun b off hp => hrows b off (hq _ hp))
    refine ⟨a0 :: ea, ⟨hc, hblk, h1⟩, List.nodup_cons.2 ⟨fun hm => ?_, h2⟩, by rw [List.length_cons, List.length_cons, h3], fun a ha => ?_⟩
    · have := (List.nodup_append.1 hnd).2.2 (MemPlace.cell a0.block a0.off) (by simp [MemPlace.row]) _ (h4 a0 hm)
      exact this rfl
    · rw [List.mem_cons] at ha
      rcases ha with rfl | ha
      · simp [MemPlace.row]
      · exact hq _ (h4 a ha)
/-- The variables, by the errors' numbers less one. -/
def errGs : List Nat := [1, 2, 3, 4, 5, 6, 7, 8, 9, 10, 11, 12, 13, 14, 15, 0, 18, 19, 20, 21, 16, 22, 23, 24]
structure ErrEnv (w : World) (ea : List Addr) : Prop where
  at_ : ErrsAt w errGs ea
  nodup : ea.Nodup
  len : ea.length = 24
theorem ErrsAt.get {w : World} : ∀ {gs : List Nat} {ea : List Addr}, ErrsAt w gs ea → ∀ (i : Nat) (h : i < ea.length), w.cell? ⟨gs.getD i 0, 0, none⟩ = some (errV ea[i]) ∧ ∃ c t, w.heap[ea[i].block]? = some (.cells c t (0, 0))
  | [], [], _, i, hi => by cases hi
  | [], a :: ea, h, i, hi => h.elim
  | g :: gs, [], h, i, hi => h.elim
  | g :: gs, a :: ea, h, 0, _ => ⟨h.1, h.2.1⟩
  | g :: gs, a :: ea, h, i + 1, hi => by
    have := ErrsAt.get h.2.2 i (by simpa using hi)
    simpa [List.getD] using this
theorem ErrsAt.below {w w' : World} (hb : Below w.heap.size w w') : ∀ {gs : List Nat} {ea : List Addr}, ErrsAt w gs ea → ErrsAt w' gs ea
  | [], [], _ => trivial
  | [], a :: ea, h => h.elim
  | g :: gs, [], h => h.elim
  | g :: gs, a :: ea, h => by
    obtain ⟨c, t, hh⟩ := h.2.1
    refine ⟨(hb.cell (p := ⟨g, 0, none⟩) (World.block_lt_of_cell? w ⟨g, 0, none⟩ h.1)).trans h.1, ⟨c, t, ?_⟩, ErrsAt.below hb h.2.2⟩
    have hlt : a.block < w.heap.size := by
      rcases Nat.lt_or_ge a.block w.heap.size with h | h
      · exact h
      · rw [Array.getElem?_eq_none h] at hh; cases hh
    rw [hb.block _ hlt]; exact hh
theorem ErrEnv.below {w w' : World} {ea : List Addr} (h : ErrEnv w ea) (hb : Below w.heap.size w w') : ErrEnv w' ea := ⟨h.at_.below hb, h.nodup, h.len⟩
theorem ErrEnv.drew {w : World} {ea : List Addr} (h : ErrEnv w ea) : ErrEnv w.drew ea := h.below (Below.refl _ _).drew
/-- Error number i (from 0 on). -/
def errI (ea : List Addr) (i : Nat) : Value := errV (ea.getD i ⟨0, 0, none⟩)
theorem ErrEnv.cell {w : World} {ea : List Addr} (h : ErrEnv w ea) (i : Nat) (hi : i < 24) : w.cell? ⟨errGs.getD i 0, 0, none⟩ = some (errI ea i) := by
  have := (h.at_.get i (by rw [h.len]; exact hi)).1
  rw [this]; unfold errI
  rw [List.getD_eq_getElem?_getD, List.getElem?_eq_getElem (by rw [h.len]; exact hi)]; rfl
theorem einfoP : (Tryz.prog.info? 195).map (·.comparable) = some true := by kernel_rfl
theorem einfoS : (Tryz.prog.info? 197).map (fun i => decide (i.size ≠ 0)) = some true := by kernel_rfl
theorem errI_eq {w : World} {ea : List Addr} (h : ErrEnv w ea) (i j : Nat) (hi : i < 24) (hj : j < 24) : (binOp .eql 30 (errI ea i) (errI ea j)).run Tryz.prog w = .ok (.bool (decide (i = j))) w := by
  obtain ⟨p, hp, hc⟩ := Option.map_eq_some_iff.1 einfoP
  obtain ⟨q, hq, hz⟩ := Option.map_eq_some_iff.1 einfoS
  by_cases hij : i = j
  · subst hij
    rw [decide_eq_true rfl]
    exact run_eql_iface_ptr_same w _ Tryz.underlying30 Tryz.underlying195 hp hc hq
  · rw [decide_eq_false hij]
    have hi' : i < ea.length := by rw [h.len]; exact hi
    have hj' : j < ea.length := by rw [h.len]; exact hj
    obtain ⟨_, ca, ta, ha⟩ := h.at_.get i hi'
    obtain ⟨_, cb, tb, hb⟩ := h.at_.get j hj'
    have hne : ea[i] ≠ ea[j] := fun e => hij ((List.getElem_inj h.nodup).1 e)
    have e1 : errI ea i = errV ea[i] := by unfold errI; rw [List.getD_eq_getElem?_getD, List.getElem?_eq_getElem hi']; rfl
    have e2 : errI ea j = errV ea[j] := by unfold errI; rw [List.getD_eq_getElem?_getD, List.getElem?_eq_getElem hj']; rfl
    rw [e1, e2]
    exact run_eql_iface_ptr_other w Tryz.underlying30 Tryz.underlying195 hp hc hq (of_decide_eq_true hz) hne ha hb
theorem errI_neq {w : World} {ea : List Addr} (h : ErrEnv w ea) (i j : Nat) (hi : i < 24) (hj : j < 24) : (binOp .neq 30 (errI ea i) (errI ea j)).run Tryz.prog w = .ok (.bool (!decide (i = j))) w := by
  obtain ⟨p, hp, hc⟩ := Option.map_eq_some_iff.1 einfoP
  obtain ⟨q, hq, hz⟩ := Option.map_eq_some_iff.1 einfoS
  by_cases hij : i = j
  · subst hij
    rw [decide_eq_true rfl]
    unfold errI errV
    simp only [binOp]
    simp [Op.equal, Op.maxDepth, run_equalIn_iface_ptr_same w 9998 _ Tryz.underlying30 Tryz.underlying195 hp hc hq]
  · rw [decide_eq_false hij]
    have hi' : i < ea.length := by rw [h.len]; exact hi
    have hj' : j < ea.length := by rw [h.len]; exact hj
    obtain ⟨_, ca, ta, ha⟩ := h.at_.get i hi'
    obtain ⟨_, cb, tb, hb⟩ := h.at_.get j hj'
    have hne : ea[i] ≠ ea[j] := fun e => hij ((List.getElem_inj h.nodup).1 e)
    have e1 : errI ea i = errV ea[i] := by unfold errI; rw [List.getD_eq_getElem?_getD, List.getElem?_eq_getElem hi']; rfl
    have e2 : errI ea j = errV ea[j] := by unfold errI; rw [List.getD_eq_getElem?_getD, List.getElem?_eq_getElem hj']; rfl
    rw [e1, e2]
    unfold errV
    simp only [binOp]
    simp [Op.equal, Op.maxDepth, run_equalIn_iface_ptr_other w 9998 Tryz.underlying30 Tryz.underlying195 hp hc hq (of_decide_eq_true hz) hne ha hb]
theorem errI_nil (ea : List Addr) (i : Nat) (W : World) : (binOp .eql 30 (errI ea i) .nilIface).run Tryz.prog W = .ok (.bool false) W := by
  have h : ∀ d : Nat, (Op.equalIn (d + 1) 30 (errI ea i) .nilIface).run Tryz.prog W = .ok false W := fun d => by simp [errI, errV, Op.equalIn, run_underlying Tryz.underlying30]
  simp only [binOp]
  simp [Op.equal, Op.maxDepth, h 9999]
theorem errI_nnil (ea : List Addr) (i : Nat) (W : World) : (binOp .neq 30 (errI ea i) .nilIface).run Tryz.prog W = .ok (.bool true) W := by
  have h : ∀ d : Nat, (Op.equalIn (d + 1) 30 (errI ea i) .nilIface).run Tryz.prog W = .ok false W := fun d => by simp [errI, errV, Op.equalIn, run_underlying Tryz.underlying30]
  simp only [binOp]
  simp [Op.equal, Op.maxDepth, h 9999]
theorem errI_guard (ea : List Addr) (i j : Nat) (op : BinOp) (x y : Operand) (W : World) : (eqGuard op 30 x y (errI ea i) (errI ea j)).run Tryz.prog W = .ok () W := by
  cases op <;> simp [errI, errV, eqGuard, go_sem, Op.eqGuardIn, Op.maxDepth, run_underlying Tryz.underlying30]
theorem errI_guard0 (ea : List Addr) (i : Nat) (op : BinOp) (x y : Operand) (W : World) : (eqGuard op 30 x y (errI ea i) .nilIface).run Tryz.prog W = .ok () W := by
  cases op <;> simp [errI, errV, eqGuard, go_sem, Op.eqGuardIn, Op.maxDepth, run_underlying Tryz.underlying30]
theorem errI_guard1 (ea : List Addr) (i : Nat) (op : BinOp) (x y : Operand) (W : World) : (eqGuard op 30 x y .nilIface (errI ea i)).run Tryz.prog W = .ok () W := by
  cases op <;> simp [errI, errV, eqGuard, go_sem, Op.eqGuardIn, Op.maxDepth, run_underlying Tryz.underlying30]
theorem nil_errI (ea : List Addr) (i : Nat) (W : World) : (binOp .eql 30 .nilIface (errI ea i)).run Tryz.prog W = .ok (.bool false) W := by
  have h : ∀ d : Nat, (Op.equalIn (d + 1) 30 .nilIface (errI ea i)).run Tryz.prog W = .ok false W := fun d => by simp [errI, errV, Op.equalIn, run_underlying Tryz.underlying30]
  simp only [binOp]
  simp [Op.equal, Op.maxDepth, h 9999]
/-- The rows of the errors, as the laid lists have them. -/
def errRows : List (String × List UInt8) := [("concord/api.ErrShort", [99, 111, 110, 99, 111, 114, 100, 58, 32, 116, 111, 111, 32, 115, 104, 111, 114, 116]), ("concord/api.ErrVarint", [99, 111, 110, 99, 111, 114, 100, 58, 32, 118, 97, 114, 105, 110, 116]), ("concord/api.ErrLimit", [99, 111, 110, 99, 111, 114, 100, 58, 32, 108, 105, 109, 105, 116]), ("concord/api.ErrOrder", [99, 111, 110, 99, 111, 114, 100, 58, 32, 111, 114, 100, 101, 114]), ("concord/api.ErrTail", [99, 111, 110, 99, 111, 114, 100, 58, 32, 116, 97, 105, 108]), ("concord/api.ErrTag", [99, 111, 110, 99, 111, 114, 100, 58, 32, 116, 97, 103]), ("concord/api.ErrSum", [99, 111, 110, 99, 111, 114, 100, 58, 32, 115, 117, 109]), ("concord/api.ErrRange", [99, 111, 110, 99, 111, 114, 100, 58, 32, 114, 97, 110, 103, 101]), ("concord/api.ErrSize", [99, 111, 110, 99, 111, 114, 100, 58, 32, 115, 105, 122, 101]), ("concord/api.ErrCorrupt", [99, 111, 110, 99, 111, 114, 100, 58, 32, 99, 111, 114, 114, 117, 112, 116]), ("concord/api.ErrSchema", [99, 111, 110, 99, 111, 114, 100, 58, 32, 115, 99, 104, 101, 109, 97]), ("concord/api.ErrField", [99, 111, 110, 99, 111, 114, 100, 58, 32, 102, 105, 101, 108, 100]), ("concord/api.ErrValue", [99, 111, 110, 99, 111, 114, 100, 58, 32, 118, 97, 108, 117, 101]), ("concord/api.ErrPattern", [99, 111, 110, 99, 111, 114, 100, 58, 32, 112, 97, 116, 116, 101, 114, 110]), ("concord/api.ErrStates", [99, 111, 110, 99, 111, 114, 100, 58, 32, 115, 116, 97, 116, 101, 115]), ("concord/api.ErrSyntax", [99, 111, 110, 99, 111, 114, 100, 58, 32, 115, 121, 110, 116, 97, 120]), ("concord/api.ErrDeep", [99, 111, 110, 99, 111, 114, 100, 58, 32, 116, 111, 111, 32, 100, 101, 101, 112]), ("concord/api.ErrNode", [99, 111, 110, 99, 111, 114, 100, 58, 32, 110, 111, 100, 101]), ("concord/api.ErrTerms", [99, 111, 110, 99, 111, 114, 100, 58, 32, 116, 111, 111, 32, 109, 97, 110, 121, 32, 116, 101, 114, 109, 115]), ("concord/api.ErrScore", [99, 111, 110, 99, 111, 114, 100, 58, 32, 115, 99, 111, 114, 101, 32, 111, 118, 101, 114, 102, 108, 111, 119]), ("concord/api.ErrCode", [99, 111, 110, 99, 111, 114, 100, 58, 32, 99, 111, 100, 101]), ("concord/api.ErrFuel", [99, 111, 110, 99, 111, 114, 100, 58, 32, 102, 117, 101, 108]), ("concord/api.ErrDoc", [99, 111, 110, 99, 111, 114, 100, 58, 32, 100, 111, 99, 117, 109, 101, 110, 116]), ("concord/api.ErrCommand", [99, 111, 110, 99, 111, 114, 100, 58, 32, 99, 111, 109, 109, 97, 110, 100])]
theorem errEnv_of_rows {W : World} (h : laidMet Tryz.prog (errRows.map fun x => (x.1, errRow x.2)) W) : ∃ ea, ErrEnv W ea := by
  obtain ⟨ps, h1, h2, h3⟩ := h
  obtain ⟨ea, g1, g2, g3, _⟩ := errsAt_of errRows errGs ps (by kernel_rfl) (by
    have h : errGs.all (fun g => (Tryz.prog.globals[g]?).map (·.type) == some 30) = true := by kernel_rfl
    intro g hg
    exact beq_iff_eq.1 (List.all_eq_true.1 h g hg)) h1 h2 h3
  exact ⟨ea, g1, g2, g3⟩
theorem errEnv_of {W : World} {l : List (String × DataW Unit)} (h : laidMet Tryz.prog l W) (e : l.filter (fun x => (errRows.map (·.1)).contains x.1) = errRows.map fun x => (x.1, errRow x.2)) : ∃ ea, ErrEnv W ea := by
  have := h.filter (fun x => (errRows.map (·.1)).contains x.1)
  rw [e] at this
  exact errEnv_of_rows this

/-- concordnum.Num: the number of an error. -/
theorem Num_nil (w : World) : Calls Tryz.prog 9 #[.nilIface] w fun e w' => e = .returned (.int .i64 0) ∧ w = w' := by
  go_enter Tryz.func9, Tryz.ntmps9
  go_wp2
  go_ret
  exact ⟨rfl, rfl⟩
theorem Num_0 (ea : List Addr) (w : World) (h : ErrEnv w ea) : Calls Tryz.prog 9 #[errI ea 0] w fun e w' => e = .returned (.int .i64 1) ∧ w = w' := by
  have c0 : w.cell? ⟨1, 0, none⟩ = some (errI ea 0) := h.cell 0 (by omega)
  have q0 : (binOp .eql 30 (errI ea 0) (errI ea 0)).run Tryz.prog w = .ok (.bool true) w := errI_eq h 0 0 (by omega) (by omega)
  have n0 := errI_nil ea 0 w
  have n1 := fun op x y => errI_guard0 ea 0 op x y w
  have n2 := fun j op x y => errI_guard ea 0 j op x y w
  clear h
  go_enter Tryz.func9, Tryz.ntmps9
  go_wp2
  go_ret
  exact ⟨rfl, rfl⟩
theorem Num_1 (ea : List Addr) (w : World) (h : ErrEnv w ea) : Calls Tryz.prog 9 #[errI ea 1] w fun e w' => e = .returned (.int .i64 2) ∧ w = w' := by
  have c0 : w.cell? ⟨1, 0, none⟩ = some (errI ea 0) := h.cell 0 (by omega)
  have q0 : (binOp .eql 30 (errI ea 1) (errI ea 0)).run Tryz.prog w = .ok (.bool false) w := errI_eq h 1 0 (by omega) (by omega)
  have c1 : w.cell? ⟨2, 0, none⟩ = some (errI ea 1) := h.cell 1 (by omega)
  have q1 : (binOp .eql 30 (errI ea 1) (errI ea 1)).run Tryz.prog w = .ok (.bool true) w := errI_eq h 1 1 (by omega) (by omega)
  have n0 := errI_nil ea 1 w
  have n1 := fun op x y => errI_guard0 ea 1 op x y w
  have n2 := fun j op x y => errI_guard ea 1 j op x y w
  clear h
  go_enter Tryz.func9, Tryz.ntmps9
  go_wp2
  go_ret
  exact ⟨rfl, rfl⟩
theorem Num_2 (ea : List Addr) (w : World) (h : ErrEnv w ea) : Calls Tryz.prog 9 #[errI ea 2] w fun e w' => e = .returned (.int .i64 3) ∧ w = w' := by
  have c0 : w.cell? ⟨1, 0, none⟩ = some (errI ea 0) := h.cell 0 (by omega)
  have q0 : (binOp .eql 30 (errI ea 2) (errI ea 0)).run Tryz.prog w = .ok (.bool false) w := errI_eq h 2 0 (by omega) (by omega)
  have c1 : w.cell? ⟨2, 0, none⟩ = some (errI ea 1) := h.cell 1 (by omega)
  have q1 : (binOp .eql 30 (errI ea 2) (errI ea 1)).run Tryz.prog w = .ok (.bool false) w := errI_eq h 2 1 (by omega) (by omega)
  have c2 : w.cell? ⟨3, 0, none⟩ = some (errI ea 2) := h.cell 2 (by omega)
  have q2 : (binOp .eql 30 (errI ea 2) (errI ea 2)).run Tryz.prog w = .ok (.bool true) w := errI_eq h 2 2 (by omega) (by omega)
  have n0 := errI_nil ea 2 w
  have n1 := fun op x y => errI_guard0 ea 2 op x y w
  have n2 := fun j op x y => errI_guard ea 2 j op x y w
  clear h
  go_enter Tryz.func9, Tryz.ntmps9
  go_wp2
  go_ret
  exact ⟨rfl, rfl⟩
theorem Num_3 (ea : List Addr) (w : World) (h : ErrEnv w ea) : Calls Tryz.prog 9 #[errI ea 3] w fun e w' => e = .returned (.int .i64 4) ∧ w = w' := by
  have c0 : w.cell? ⟨1, 0, none⟩ = some (errI ea 0) := h.cell 0 (by omega)
  have q0 : (binOp .eql 30 (errI ea 3) (errI ea 0)).run Tryz.prog w = .ok (.bool false) w := errI_eq h 3 0 (by omega) (by omega)
  have c1 : w.cell? ⟨2, 0, none⟩ = some (errI ea 1) := h.cell 1 (by omega)
  have q1 : (binOp .eql 30 (errI ea 3) (errI ea 1)).run Tryz.prog w = .ok (.bool false) w := errI_eq h 3 1 (by omega) (by omega)
  have c2 : w.cell? ⟨3, 0, none⟩ = some (errI ea 2) := h.cell 2 (by omega)
  have q2 : (binOp .eql 30 (errI ea 3) (errI ea 2)).run Tryz.prog w = .ok (.bool false) w := errI_eq h 3 2 (by omega) (by omega)
  have c3 : w.cell? ⟨4, 0, none⟩ = some (errI ea 3) := h.cell 3 (by omega)
  have q3 : (binOp .eql 30 (errI ea 3) (errI ea 3)).run Tryz.prog w = .ok (.bool true) w := errI_eq h 3 3 (by omega) (by omega)
  have n0 := errI_nil ea 3 w
  have n1 := fun op x y => errI_guard0 ea 3 op x y w
  have n2 := fun j op x y => errI_guard ea 3 j op x y w
  clear h
  go_enter Tryz.func9, Tryz.ntmps9
  go_wp2
  go_ret
  exact ⟨rfl, rfl⟩
theorem Num_4 (ea : List Addr) (w : World) (h : ErrEnv w ea) : Calls Tryz.prog 9 #[errI ea 4] w fun e w' => e = .returned (.int .i64 5) ∧ w = w' := by
  have c0 : w.cell? ⟨1, 0, none⟩ = some (errI ea 0) := h.cell 0 (by omega)
  have q0 : (binOp .eql 30 (errI ea 4) (errI ea 0)).run Tryz.prog w = .ok (.bool false) w := errI_eq h 4 0 (by omega) (by omega)
  have c1 : w.cell? ⟨2, 0, none⟩ = some (errI ea 1) := h.cell 1 (by omega)
  have q1 : (binOp .eql 30 (errI ea 4) (errI ea 1)).run Tryz.prog w = .ok (.bool false) w := errI_eq h 4 1 (by omega) (by omega)
  have c2 : w.cell? ⟨3, 0, none⟩ = some (errI ea 2) := h.cell 2 (by omega)
  have q2 : (binOp .eql 30 (errI ea 4) (errI ea 2)).run Tryz.prog w = .ok (.bool false) w := errI_eq h 4 2 (by omega) (by omega)
  have c3 : w.cell? ⟨4, 0, none⟩ = some (errI ea 3) := h.cell 3 (by omega)
  have q3 : (binOp .eql 30 (errI ea 4) (errI ea 3)).run Tryz.prog w = .ok (.bool false) w := errI_eq h 4 3 (by omega) (by omega)
  have c4 : w.cell? ⟨5, 0, none⟩ = some (errI ea 4) := h.cell 4 (by omega)
  have q4 : (binOp .eql 30 (errI ea 4) (errI ea 4)).run Tryz.prog w = .ok (.bool true) w := errI_eq h 4 4 (by omega) (by omega)
  have n0 := errI_nil ea 4 w
  have n1 := fun op x y => errI_guard0 ea 4 op x y w
  have n2 := fun j op x y => errI_guard ea 4 j op x y w
  clear h
  go_enter Tryz.func9, Tryz.ntmps9
  go_wp2
  go_ret
  exact ⟨rfl, rfl⟩
theorem Num_5 (ea : List Addr) (w : World) (h : ErrEnv w ea) : Calls Tryz.prog 9 #[errI ea 5] w fun e w' => e = .returned (.int .i64 6) ∧ w = w' := by
  have c0 : w.cell? ⟨1, 0, none⟩ = some (errI ea 0) := h.cell 0 (by omega)
  have q0 : (binOp .eql 30 (errI ea 5) (errI ea 0)).run Tryz.prog w = .ok (.bool false) w := errI_eq h 5 0 (by omega) (by omega)
  have c1 : w.cell? ⟨2, 0, none⟩ = some (errI ea 1) := h.cell 1 (by omega)
  have q1 : (binOp .eql 30 (errI ea 5) (errI ea 1)).run Tryz.prog w = .ok (.bool false) w := errI_eq h 5 1 (by omega) (by omega)
  have c2 : w.cell? ⟨3, 0, none⟩ = some (errI ea 2) := h.cell 2 (by omega)
  have q2 : (binOp .eql 30 (errI ea 5) (errI ea 2)).run Tryz.prog w = .ok (.bool false) w := errI_eq h 5 2 (by omega) (by omega)
  have c3 : w.cell? ⟨4, 0, none⟩ = some (errI ea 3) := h.cell 3 (by omega)
  have q3 : (binOp .eql 30 (errI ea 5) (errI ea 3)).run Tryz.prog w = .ok (.bool false) w := errI_eq h 5 3 (by omega) (by omega)
  have c4 : w.cell? ⟨5, 0, none⟩ = some (errI ea 4) := h.cell 4 (by omega)
  have q4 : (binOp .eql 30 (errI ea 5) (errI ea 4)).run Tryz.prog w = .ok (.bool false) w := errI_eq h 5 4 (by omega) (by omega)
  have c5 : w.cell? ⟨6, 0, none⟩ = some (errI ea 5) := h.cell 5 (by omega)
  have q5 : (binOp .eql 30 (errI ea 5) (errI ea 5)).run Tryz.prog w = .ok (.bool true) w := errI_eq h 5 5 (by omega) (by omega)
  have n0 := errI_nil ea 5 w
  have n1 := fun op x y => errI_guard0 ea 5 op x y w
  have n2 := fun j op x y => errI_guard ea 5 j op x y w
  clear h
  go_enter Tryz.func9, Tryz.ntmps9
  go_wp2
  go_ret
  exact ⟨rfl, rfl⟩
theorem Num_6 (ea : List Addr) (w : World) (h : ErrEnv w ea) : Calls Tryz.prog 9 #[errI ea 6] w fun e w' => e = .returned (.int .i64 7) ∧ w = w' := by
  have c0 : w.cell? ⟨1, 0, none⟩ = some (errI ea 0) := h.cell 0 (by omega)
  have q0 : (binOp .eql 30 (errI ea 6) (errI ea 0)).run Tryz.prog w = .ok (.bool false) w := errI_eq h 6 0 (by omega) (by omega)
  have c1 : w.cell? ⟨2, 0, none⟩ = some (errI ea 1) := h.cell 1 (by omega)
  have q1 : (binOp .eql 30 (errI ea 6) (errI ea 1)).run Tryz.prog w = .ok (.bool false) w := errI_eq h 6 1 (by omega) (by omega)
  have c2 : w.cell? ⟨3, 0, none⟩ = some (errI ea 2) := h.cell 2 (by omega)
  have q2 : (binOp .eql 30 (errI ea 6) (errI ea 2)).run Tryz.prog w = .ok (.bool false) w := errI_eq h 6 2 (by omega) (by omega)
  have c3 : w.cell? ⟨4, 0, none⟩ = some (errI ea 3) := h.cell 3 (by omega)
  have q3 : (binOp .eql 30 (errI ea 6) (errI ea 3)).run Tryz.prog w = .ok (.bool false) w := errI_eq h 6 3 (by omega) (by omega)
  have c4 : w.cell? ⟨5, 0, none⟩ = some (errI ea 4) := h.cell 4 (by omega)
  have q4 : (binOp .eql 30 (errI ea 6) (errI ea 4)).run Tryz.prog w = .ok (.bool false) w := errI_eq h 6 4 (by omega) (by omega)
  have c5 : w.cell? ⟨6, 0, none⟩ = some (errI ea 5) := h.cell 5 (by omega)
  have q5 : (binOp .eql 30 (errI ea 6) (errI ea 5)).run Tryz.prog w = .ok (.bool false) w := errI_eq h 6 5 (by omega) (by omega)
  have c6 : w.cell? ⟨7, 0, none⟩ = some (errI ea 6) := h.cell 6 (by omega)
  have q6 : (binOp .eql 30 (errI ea 6) (errI ea 6)).run Tryz.prog w = .ok (.bool true) w := errI_eq h 6 6 (by omega) (by omega)
  have n0 := errI_nil ea 6 w
  have n1 := fun op x y => errI_guard0 ea 6 op x y w
  have n2 := fun j op x y => errI_guard ea 6 j op x y w
  clear h
  go_enter Tryz.func9, Tryz.ntmps9
  go_wp2
  go_ret
  exact ⟨rfl, rfl⟩
theorem Num_7 (ea : List Addr) (w : World) (h : ErrEnv w ea) : Calls Tryz.prog 9 #[errI ea 7] w fun e w' => e = .returned (.int .i64 8) ∧ w = w' := by
  have c0 : w.cell? ⟨1, 0, none⟩ = some (errI ea 0) := h.cell 0 (by omega)
  have q0 : (binOp .eql 30 (errI ea 7) (errI ea 0)).run Tryz.prog w = .ok (.bool false) w := errI_eq h 7 0 (by omega) (by omega)
  have c1 : w.cell? ⟨2, 0, none⟩ = some (errI ea 1) := h.cell 1 (by omega)
  have q1 : (binOp .eql 30 (errI ea 7) (errI ea 1)).run Tryz.prog w = .ok (.bool false) w := errI_eq h 7 1 (by omega) (by omega)
  have c2 : w.cell? ⟨3, 0, none⟩ = some (errI ea 2) := h.cell 2 (by omega)
  have q2 : (binOp .eql 30 (errI ea 7) (errI ea 2)).run Tryz.prog w = .ok (.bool false) w := errI_eq h 7 2 (by omega) (by omega)
  have c3 : w.cell? ⟨4, 0, none⟩ = some (errI ea 3) := h.cell 3 (by omega)
  have q3 : (binOp .eql 30 (errI ea 7) (errI ea 3)).run Tryz.prog w = .ok (.bool false) w := errI_eq h 7 3 (by omega) (by omega)
  have c4 : w.cell? ⟨5, 0, none⟩ = some (errI ea 4) := h.cell 4 (by omega)
  have q4 : (binOp .eql 30 (errI ea 7) (errI ea 4)).run Tryz.prog w = .ok (.bool false) w := errI_eq h 7 4 (by omega) (by omega)
  have c5 : w.cell? ⟨6, 0, none⟩ = some (errI ea 5) := h.cell 5 (by omega)
  have q5 : (binOp .eql 30 (errI ea 7) (errI ea 5)).run Tryz.prog w = .ok (.bool false) w := errI_eq h 7 5 (by omega) (by omega)
  have c6 : w.cell? ⟨7, 0, none⟩ = some (errI ea 6) := h.cell 6 (by omega)
  have q6 : (binOp .eql 30 (errI ea 7) (errI ea 6)).run Tryz.prog w = .ok (.bool false) w := errI_eq h 7 6 (by omega) (by omega)
  have c7 : w.cell? ⟨8, 0, none⟩ = some (errI ea 7) := h.cell 7 (by omega)
  have q7 : (binOp .eql 30 (errI ea 7) (errI ea 7)).run Tryz.prog w = .ok (.bool true) w := errI_eq h 7 7 (by omega) (by omega)
  have n0 := errI_nil ea 7 w
  have n1 := fun op x y => errI_guard0 ea 7 op x y w
  have n2 := fun j op x y => errI_guard ea 7 j op x y w
  clear h
  go_enter Tryz.func9, Tryz.ntmps9
  go_wp2
  go_ret
  exact ⟨rfl, rfl⟩
theorem Num_8 (ea : List Addr) (w : World) (h : ErrEnv w ea) : Calls Tryz.prog 9 #[errI ea 8] w fun e w' => e = .returned (.int .i64 9) ∧ w = w' := by
  have c0 : w.cell? ⟨1, 0, none⟩ = some (errI ea 0) := h.cell 0 (by omega)
  have q0 : (binOp .eql 30 (errI ea 8) (errI ea 0)).run Tryz.prog w = .ok (.bool false) w := errI_eq h 8 0 (by omega) (by omega)
  have c1 : w.cell? ⟨2, 0, none⟩ = some (errI ea 1) := h.cell 1 (by omega)
  have q1 : (binOp .eql 30 (errI ea 8) (errI ea 1)).run Tryz.prog w = .ok (.bool false) w := errI_eq h 8 1 (by omega) (by omega)
  have c2 : w.cell? ⟨3, 0, none⟩ = some (errI ea 2) := h.cell 2 (by omega)
  have q2 : (binOp .eql 30 (errI ea 8) (errI ea 2)).run Tryz.prog w = .ok (.bool false) w := errI_eq h 8 2 (by omega) (by omega)
  have c3 : w.cell? ⟨4, 0, none⟩ = some (errI ea 3) := h.cell 3 (by omega)
  have q3 : (binOp .eql 30 (errI ea 8) (errI ea 3)).run Tryz.prog w = .ok (.bool false) w := errI_eq h 8 3 (by omega) (by omega)
  have c4 : w.cell? ⟨5, 0, none⟩ = some (errI ea 4) := h.cell 4 (by omega)
  have q4 : (binOp .eql 30 (errI ea 8) (errI ea 4)).run Tryz.prog w = .ok (.bool false) w := errI_eq h 8 4 (by omega) (by omega)
  have c5 : w.cell? ⟨6, 0, none⟩ = some (errI ea 5) := h.cell 5 (by omega)
  have q5 : (binOp .eql 30 (errI ea 8) (errI ea 5)).run Tryz.prog w = .ok (.bool false) w := errI_eq h 8 5 (by omega) (by omega)
  have c6 : w.cell? ⟨7, 0, none⟩ = some (errI ea 6) := h.cell 6 (by omega)
  have q6 : (binOp .eql 30 (errI ea 8) (errI ea 6)).run Tryz.prog w = .ok (.bool false) w := errI_eq h 8 6 (by omega) (by omega)
  have c7 : w.cell? ⟨8, 0, none⟩ = some (errI ea 7) := h.cell 7 (by omega)
  have q7 : (binOp .eql 30 (errI ea 8) (errI ea 7)).run Tryz.prog w = .ok (.bool false) w := errI_eq h 8 7 (by omega) (by omega)
  have c8 : w.cell? ⟨9, 0, none⟩ = some (errI ea 8) := h.cell 8 (by omega)
  have q8 : (binOp .eql 30 (errI ea 8) (errI ea 8)).run Tryz.prog w = .ok (.bool true) w := errI_eq h 8 8 (by omega) (by omega)
  have n0 := errI_nil ea 8 w
  have n1 := fun op x y => errI_guard0 ea 8 op x y w
  have n2 := fun j op x y => errI_guard ea 8 j op x y w
  clear h
  go_enter Tryz.func9, Tryz.ntmps9
  go_wp2
  go_ret
  exact ⟨rfl, rfl⟩
theorem Num_9 (ea : List Addr) (w : World) (h : ErrEnv w ea) : Calls Tryz.prog 9 #[errI ea 9] w fun e w' => e = .returned (.int .i64 10) ∧ w = w' := by
  have c0 : w.cell? ⟨1, 0, none⟩ = some (errI ea 0) := h.cell 0 (by omega)
  have q0 : (binOp .eql 30 (errI ea 9) (errI ea 0)).run Tryz.prog w = .ok (.bool false) w := errI_eq h 9 0 (by omega) (by omega)
  have c1 : w.cell? ⟨2, 0, none⟩ = some (errI ea 1) := h.cell 1 (by omega)
  have q1 : (binOp .eql 30 (errI ea 9) (errI ea 1)).run Tryz.prog w = .ok (.bool false) w := errI_eq h 9 1 (by omega) (by omega)
  have c2 : w.cell? ⟨3, 0, none⟩ = some (errI ea 2) := h.cell 2 (by omega)
  have q2 : (binOp .eql 30 (errI ea 9) (errI ea 2)).run Tryz.prog w = .ok (.bool false) w := errI_eq h 9 2 (by omega) (by omega)
  have c3 : w.cell? ⟨4, 0, none⟩ = some (errI ea 3) := h.cell 3 (by omega)
  have q3 : (binOp .eql 30 (errI ea 9) (errI ea 3)).run Tryz.prog w = .ok (.bool false) w := errI_eq h 9 3 (by omega) (by omega)
  have c4 : w.cell? ⟨5, 0, none⟩ = some (errI ea 4) := h.cell 4 (by omega)
  have q4 : (binOp .eql 30 (errI ea 9) (errI ea 4)).run Tryz.prog w = .ok (.bool false) w := errI_eq h 9 4 (by omega) (by omega)
  have c5 : w.cell? ⟨6, 0, none⟩ = some (errI ea 5) := h.cell 5 (by omega)
  have q5 : (binOp .eql 30 (errI ea 9) (errI ea 5)).run Tryz.prog w = .ok (.bool false) w := errI_eq h 9 5 (by omega) (by omega)
  have c6 : w.cell? ⟨7, 0, none⟩ = some (errI ea 6) := h.cell 6 (by omega)
  have q6 : (binOp .eql 30 (errI ea 9) (errI ea 6)).run Tryz.prog w = .ok (.bool false) w := errI_eq h 9 6 (by omega) (by omega)
  have c7 : w.cell? ⟨8, 0, none⟩ = some (errI ea 7) := h.cell 7 (by omega)
  have q7 : (binOp .eql 30 (errI ea 9) (errI ea 7)).run Tryz.prog w = .ok (.bool false) w := errI_eq h 9 7 (by omega) (by omega)
  have c8 : w.cell? ⟨9, 0, none⟩ = some (errI ea 8) := h.cell 8 (by omega)
  have q8 : (binOp .eql 30 (errI ea 9) (errI ea 8)).run Tryz.prog w = .ok (.bool false) w := errI_eq h 9 8 (by omega) (by omega)
  have c9 : w.cell? ⟨10, 0, none⟩ = some (errI ea 9) := h.cell 9 (by omega)
  have q9 : (binOp .eql 30 (errI ea 9) (errI ea 9)).run Tryz.prog w = .ok (.bool true) w := errI_eq h 9 9 (by omega) (by omega)
  have n0 := errI_nil ea 9 w
  have n1 := fun op x y => errI_guard0 ea 9 op x y w
  have n2 := fun j op x y => errI_guard ea 9 j op x y w
  clear h
  go_enter Tryz.func9, Tryz.ntmps9
  go_wp2
  go_ret
  exact ⟨rfl, rfl⟩
theorem Num_10 (ea : List Addr) (w : World) (h : ErrEnv w ea) : Calls Tryz.prog 9 #[errI ea 10] w fun e w' => e = .returned (.int .i64 11) ∧ w = w' := by
  have c0 : w.cell? ⟨1, 0, none⟩ = some (errI ea 0) := h.cell 0 (by omega)
  have q0 : (binOp .eql 30 (errI ea 10) (errI ea 0)).run Tryz.prog w = .ok (.bool false) w := errI_eq h 10 0 (by omega) (by omega)
  have c1 : w.cell? ⟨2, 0, none⟩ = some (errI ea 1) := h.cell 1 (by omega)
  have q1 : (binOp .eql 30 (errI ea 10) (errI ea 1)).run Tryz.prog w = .ok (.bool false) w := errI_eq h 10 1 (by omega) (by omega)
  have c2 : w.cell? ⟨3, 0, none⟩ = some (errI ea 2) := h.cell 2 (by omega)
  have q2 : (binOp .eql 30 (errI ea 10) (errI ea 2)).run Tryz.prog w = .ok (.bool false) w := errI_eq h 10 2 (by omega) (by omega)
  have c3 : w.cell? ⟨4, 0, none⟩ = some (errI ea 3) := h.cell 3 (by omega)
  have q3 : (binOp .eql 30 (errI ea 10) (errI ea 3)).run Tryz.prog w = .ok (.bool false) w := errI_eq h 10 3 (by omega) (by omega)
  have c4 : w.cell? ⟨5, 0, none⟩ = some (errI ea 4) := h.cell 4 (by omega)
  have q4 : (binOp .eql 30 (errI ea 10) (errI ea 4)).run Tryz.prog w = .ok (.bool false) w := errI_eq h 10 4 (by omega) (by omega)
  have c5 : w.cell? ⟨6, 0, none⟩ = some (errI ea 5) := h.cell 5 (by omega)
  have q5 : (binOp .eql 30 (errI ea 10) (errI ea 5)).run Tryz.prog w = .ok (.bool false) w := errI_eq h 10 5 (by omega) (by omega)
  have c6 : w.cell? ⟨7, 0, none⟩ = some (errI ea 6) := h.cell 6 (by omega)
  have q6 : (binOp .eql 30 (errI ea 10) (errI ea 6)).run Tryz.prog w = .ok (.bool false) w := errI_eq h 10 6 (by omega) (by omega)
  have c7 : w.cell? ⟨8, 0, none⟩ = some (errI ea 7) := h.cell 7 (by omega)
  have q7 : (binOp .eql 30 (errI ea 10) (errI ea 7)).run Tryz.prog w = .ok (.bool false) w := errI_eq h 10 7 (by omega) (by omega)
  have c8 : w.cell? ⟨9, 0, none⟩ = some (errI ea 8) := h.cell 8 (by omega)
  have q8 : (binOp .eql 30 (errI ea 10) (errI ea 8)).run Tryz.prog w = .ok (.bool false) w := errI_eq h 10 8 (by omega) (by omega)
  have c9 : w.cell? ⟨10, 0, none⟩ = some (errI ea 9) := h.cell 9 (by omega)
  have q9 : (binOp .eql 30 (errI ea 10) (errI ea 9)).run Tryz.prog w = .ok (.bool false) w := errI_eq h 10 9 (by omega) (by omega)
  have c10 : w.cell? ⟨11, 0, none⟩ = some (errI ea 10) := h.cell 10 (by omega)
  have q10 : (binOp .eql 30 (errI ea 10) (errI ea 10)).run Tryz.prog w = .ok (.bool true) w := errI_eq h 10 10 (by omega) (by omega)
  have n0 := errI_nil ea 10 w
  have n1 := fun op x y => errI_guard0 ea 10 op x y w
  have n2 := fun j op x y => errI_guard ea 10 j op x y w
  clear h
  go_enter Tryz.func9, Tryz.ntmps9
  go_wp2
  go_ret
  exact ⟨rfl, rfl⟩
theorem Num_11 (ea : List Addr) (w : World) (h : ErrEnv w ea) : Calls Tryz.prog 9 #[errI ea 11] w fun e w' => e = .returned (.int .i64 12) ∧ w = w' := by
  have c0 : w.cell? ⟨1, 0, none⟩ = some (errI ea 0) := h.cell 0 (by omega)
  have q0 : (binOp .eql 30 (errI ea 11) (errI ea 0)).run Tryz.prog w = .ok (.bool false) w := errI_eq h 11 0 (by omega) (by omega)
  have c1 : w.cell? ⟨2, 0, none⟩ = some (errI ea 1) := h.cell 1 (by omega)
  have q1 : (binOp .eql 30 (errI ea 11) (errI ea 1)).run Tryz.prog w = .ok (.bool false) w := errI_eq h 11 1 (by omega) (by omega)
  have c2 : w.cell? ⟨3, 0, none⟩ = some (errI ea 2) := h.cell 2 (by omega)
  have q2 : (binOp .eql 30 (errI ea 11) (errI ea 2)).run Tryz.prog w = .ok (.bool false) w := errI_eq h 11 2 (by omega) (by omega)
  have c3 : w.cell? ⟨4, 0, none⟩ = some (errI ea 3) := h.cell 3 (by omega)
  have q3 : (binOp .eql 30 (errI ea 11) (errI ea 3)).run Tryz.prog w = .ok (.bool false) w := errI_eq h 11 3 (by omega) (by omega)
  have c4 : w.cell? ⟨5, 0, none⟩ = some (errI ea 4) := h.cell 4 (by omega)
  have q4 : (binOp .eql 30 (errI ea 11) (errI ea 4)).run Tryz.prog w = .ok (.bool false) w := errI_eq h 11 4 (by omega) (by omega)
  have c5 : w.cell? ⟨6, 0, none⟩ = some (errI ea 5) := h.cell 5 (by omega)
  have q5 : (binOp .eql 30 (errI ea 11) (errI ea 5)).run Tryz.prog w = .ok (.bool false) w := errI_eq h 11 5 (by omega) (by omega)
  have c6 : w.cell? ⟨7, 0, none⟩ = some (errI ea 6) := h.cell 6 (by omega)
  have q6 : (binOp .eql 30 (errI ea 11) (errI ea 6)).run Tryz.prog w = .ok (.bool false) w := errI_eq h 11 6 (by omega) (by omega)
  have c7 : w.cell? ⟨8, 0, none⟩ = some (errI ea 7) := h.cell 7 (by omega)
  have q7 : (binOp .eql 30 (errI ea 11) (errI ea 7)).run Tryz.prog w = .ok (.bool false) w := errI_eq h 11 7 (by omega) (by omega)
  have c8 : w.cell? ⟨9, 0, none⟩ = some (errI ea 8) := h.cell 8 (by omega)
  have q8 : (binOp .eql 30 (errI ea 11) (errI ea 8)).run Tryz.prog w = .ok (.bool false) w := errI_eq h 11 8 (by omega) (by omega)
  have c9 : w.cell? ⟨10, 0, none⟩ = some (errI ea 9) := h.cell 9 (by omega)
  have q9 : (binOp .eql 30 (errI ea 11) (errI ea 9)).run Tryz.prog w = .ok (.bool false) w := errI_eq h 11 9 (by omega) (by omega)
  have c10 : w.cell? ⟨11, 0, none⟩ = some (errI ea 10) := h.cell 10 (by omega)
  have q10 : (binOp .eql 30 (errI ea 11) (errI ea 10)).run Tryz.prog w = .ok (.bool false) w := errI_eq h 11 10 (by omega) (by omega)
  have c11 : w.cell? ⟨12, 0, none⟩ = some (errI ea 11) := h.cell 11 (by omega)
  have q11 : (binOp .eql 30 (errI ea 11) (errI ea 11)).run Tryz.prog w = .ok (.bool true) w := errI_eq h 11 11 (by omega) (by omega)
  have n0 := errI_nil ea 11 w
  have n1 := fun op x y => errI_guard0 ea 11 op x y w
  have n2 := fun j op x y => errI_guard ea 11 j op x y w
  clear h
  go_enter Tryz.func9, Tryz.ntmps9
  go_wp2
  go_ret
  exact ⟨rfl, rfl⟩
theorem Num_12 (ea : List Addr) (w : World) (h : ErrEnv w ea) : Calls Tryz.prog 9 #[errI ea 12] w fun e w' => e = .returned (.int .i64 13) ∧ w = w' := by
  have c0 : w.cell? ⟨1, 0, none⟩ = some (errI ea 0) := h.cell 0 (by omega)
  have q0 : (binOp .eql 30 (errI ea 12) (errI ea 0)).run Tryz.prog w = .ok (.bool false) w := errI_eq h 12 0 (by omega) (by omega)
  have c1 : w.cell? ⟨2, 0, none⟩ = some (errI ea 1) := h.cell 1 (by omega)
  have q1 : (binOp .eql 30 (errI ea 12) (errI ea 1)).run Tryz.prog w = .ok (.bool false) w := errI_eq h 12 1 (by omega) (by omega)
  have c2 : w.cell? ⟨3, 0, none⟩ = some (errI ea 2) := h.cell 2 (by omega)
  have q2 : (binOp .eql 30 (errI ea 12) (errI ea 2)).run Tryz.prog w = .ok (.bool false) w := errI_eq h 12 2 (by omega) (by omega)
  have c3 : w.cell? ⟨4, 0, none⟩ = some (errI ea 3) := h.cell 3 (by omega)
  have q3 : (binOp .eql 30 (errI ea 12) (errI ea 3)).run Tryz.prog w = .ok (.bool false) w := errI_eq h 12 3 (by omega) (by omega)
  have c4 : w.cell? ⟨5, 0, none⟩ = some (errI ea 4) := h.cell 4 (by omega)
  have q4 : (binOp .eql 30 (errI ea 12) (errI ea 4)).run Tryz.prog w = .ok (.bool false) w := errI_eq h 12 4 (by omega) (by omega)
  have c5 : w.cell? ⟨6, 0, none⟩ = some (errI ea 5) := h.cell 5 (by omega)
  have q5 : (binOp .eql 30 (errI ea 12) (errI ea 5)).run Tryz.prog w = .ok (.bool false) w := errI_eq h 12 5 (by omega) (by omega)
  have c6 : w.cell? ⟨7, 0, none⟩ = some (errI ea 6) := h.cell 6 (by omega)
  have q6 : (binOp .eql 30 (errI ea 12) (errI ea 6)).run Tryz.prog w = .ok (.bool false) w := errI_eq h 12 6 (by omega) (by omega)
  have c7 : w.cell? ⟨8, 0, none⟩ = some (errI ea 7) := h.cell 7 (by omega)
  have q7 : (binOp .eql 30 (errI ea 12) (errI ea 7)).run Tryz.prog w = .ok (.bool false) w := errI_eq h 12 7 (by omega) (by omega)
  have c8 : w.cell? ⟨9, 0, none⟩ = some (errI ea 8) := h.cell 8 (by omega)
  have q8 : (binOp .eql 30 (errI ea 12) (errI ea 8)).run Tryz.prog w = .ok (.bool false) w := errI_eq h 12 8 (by omega) (by omega)
  have c9 : w.cell? ⟨10, 0, none⟩ = some (errI ea 9) := h.cell 9 (by omega)
  have q9 : (binOp .eql 30 (errI ea 12) (errI ea 9)).run Tryz.prog w = .ok (.bool false) w := errI_eq h 12 9 (by omega) (by omega)
  have c10 : w.cell? ⟨11, 0, none⟩ = some (errI ea 10) := h.cell 10 (by omega)
  have q10 : (binOp .eql 30 (errI ea 12) (errI ea 10)).run Tryz.prog w = .ok (.bool false) w := errI_eq h 12 10 (by omega) (by omega)
  have c11 : w.cell? ⟨12, 0, none⟩ = some (errI ea 11) := h.cell 11 (by omega)
  have q11 : (binOp .eql 30 (errI ea 12) (errI ea 11)).run Tryz.prog w = .ok (.bool false) w := errI_eq h 12 11 (by omega) (by omega)
  have c12 : w.cell? ⟨13, 0, none⟩ = some (errI ea 12) := h.cell 12 (by omega)
  have q12 : (binOp .eql 30 (errI ea 12) (errI ea 12)).run Tryz.prog w = .ok (.bool true) w := errI_eq h 12 12 (by omega) (by omega)
  have n0 := errI_nil ea 12 w
  have n1 := fun op x y => errI_guard0 ea 12 op x y w
  have n2 := fun j op x y => errI_guard ea 12 j op x y w
  clear h
  go_enter Tryz.func9, Tryz.ntmps9
  go_wp2
  go_ret
  exact ⟨rfl, rfl⟩
theorem Num_13 (ea : List Addr) (w : World) (h : ErrEnv w ea) : Calls Tryz.prog 9 #[errI ea 13] w fun e w' => e = .returned (.int .i64 14) ∧ w = w' := by
  have c0 : w.cell? ⟨1, 0, none⟩ = some (errI ea 0) := h.cell 0 (by omega)
  have q0 : (binOp .eql 30 (errI ea 13) (errI ea 0)).run Tryz.prog w = .ok (.bool false) w := errI_eq h 13 0 (by omega) (by omega)
  have c1 : w.cell? ⟨2, 0, none⟩ = some (errI ea 1) := h.cell 1 (by omega)
  have q1 : (binOp .eql 30 (errI ea 13) (errI ea 1)).run Tryz.prog w = .ok (.bool false) w := errI_eq h 13 1 (by omega) (by omega)
  have c2 : w.cell? ⟨3, 0, none⟩ = some (errI ea 2) := h.cell 2 (by omega)
  have q2 : (binOp .eql 30 (errI ea 13) (errI ea 2)).run Tryz.prog w = .ok (.bool false) w := errI_eq h 13 2 (by omega) (by omega)
  have c3 : w.cell? ⟨4, 0, none⟩ = some (errI ea 3) := h.cell 3 (by omega)
  have q3 : (binOp .eql 30 (errI ea 13) (errI ea 3)).run Tryz.prog w = .ok (.bool false) w := errI_eq h 13 3 (by omega) (by omega)
  have c4 : w.cell? ⟨5, 0, none⟩ = some (errI ea 4) := h.cell 4 (by omega)
  have q4 : (binOp .eql 30 (errI ea 13) (errI ea 4)).run Tryz.prog w = .ok (.bool false) w := errI_eq h 13 4 (by omega) (by omega)
  have c5 : w.cell? ⟨6, 0, none⟩ = some (errI ea 5) := h.cell 5 (by omega)
  have q5 : (binOp .eql 30 (errI ea 13) (errI ea 5)).run Tryz.prog w = .ok (.bool false) w := errI_eq h 13 5 (by omega) (by omega)
  have c6 : w.cell? ⟨7, 0, none⟩ = some (errI ea 6) := h.cell 6 (by omega)
  have q6 : (binOp .eql 30 (errI ea 13) (errI ea 6)).run Tryz.prog w = .ok (.bool false) w := errI_eq h 13 6 (by omega) (by omega)
  have c7 : w.cell? ⟨8, 0, none⟩ = some (errI ea 7) := h.cell 7 (by omega)
  have q7 : (binOp .eql 30 (errI ea 13) (errI ea 7)).run Tryz.prog w = .ok (.bool false) w := errI_eq h 13 7 (by omega) (by omega)
  have c8 : w.cell? ⟨9, 0, none⟩ = some (errI ea 8) := h.cell 8 (by omega)
  have q8 : (binOp .eql 30 (errI ea 13) (errI ea 8)).run Tryz.prog w = .ok (.bool false) w := errI_eq h 13 8 (by omega) (by omega)
  have c9 : w.cell? ⟨10, 0, none⟩ = some (errI ea 9) := h.cell 9 (by omega)
  have q9 : (binOp .eql 30 (errI ea 13) (errI ea 9)).run Tryz.prog w = .ok (.bool false) w := errI_eq h 13 9 (by omega) (by omega)
  have c10 : w.cell? ⟨11, 0, none⟩ = some (errI ea 10) := h.cell 10 (by omega)
  have q10 : (binOp .eql 30 (errI ea 13) (errI ea 10)).run Tryz.prog w = .ok (.bool false) w := errI_eq h 13 10 (by omega) (by omega)
  have c11 : w.cell? ⟨12, 0, none⟩ = some (errI ea 11) := h.cell 11 (by omega)
  have q11 : (binOp .eql 30 (errI ea 13) (errI ea 11)).run Tryz.prog w = .ok (.bool false) w := errI_eq h 13 11 (by omega) (by omega)
  have c12 : w.cell? ⟨13, 0, none⟩ = some (errI ea 12) := h.cell 12 (by omega)
  have q12 : (binOp .eql 30 (errI ea 13) (errI ea 12)).run Tryz.prog w = .ok (.bool false) w := errI_eq h 13 12 (by omega) (by omega)
  have c13 : w.cell? ⟨14, 0, none⟩ = some (errI ea 13) := h.cell 13 (by omega)
  have q13 : (binOp .eql 30 (errI ea 13) (errI ea 13)).run Tryz.prog w = .ok (.bool true) w := errI_eq h 13 13 (by omega) (by omega)
  have n0 := errI_nil ea 13 w
  have n1 := fun op x y => errI_guard0 ea 13 op x y w
  have n2 := fun j op x y => errI_guard ea 13 j op x y w
  clear h
  go_enter Tryz.func9, Tryz.ntmps9
  go_wp2
  go_ret
  exact ⟨rfl, rfl⟩
theorem Num_14 (ea : List Addr) (w : World) (h : ErrEnv w ea) : Calls Tryz.prog 9 #[errI ea 14] w fun e w' => e = .returned (.int .i64 15) ∧ w = w' := by
  have c0 : w.cell? ⟨1, 0, none⟩ = some (errI ea 0) := h.cell 0 (by omega)
  have q0 : (binOp .eql 30 (errI ea 14) (errI ea 0)).run Tryz.prog w = .ok (.bool false) w := errI_eq h 14 0 (by omega) (by omega)
  have c1 : w.cell? ⟨2, 0, none⟩ = some (errI ea 1) := h.cell 1 (by omega)
  have q1 : (binOp .eql 30 (errI ea 14) (errI ea 1)).run Tryz.prog w = .ok (.bool false) w := errI_eq h 14 1 (by omega) (by omega)
  have c2 : w.cell? ⟨3, 0, none⟩ = some (errI ea 2) := h.cell 2 (by omega)
  have q2 : (binOp .eql 30 (errI ea 14) (errI ea 2)).run Tryz.prog w = .ok (.bool false) w := errI_eq h 14 2 (by omega) (by omega)
  have c3 : w.cell? ⟨4, 0, none⟩ = some (errI ea 3) := h.cell 3 (by omega)
  have q3 : (binOp .eql 30 (errI ea 14) (errI ea 3)).run Tryz.prog w = .ok (.bool false) w := errI_eq h 14 3 (by omega) (by omega)
  have c4 : w.cell? ⟨5, 0, none⟩ = some (errI ea 4) := h.cell 4 (by omega)
  have q4 : (binOp .eql 30 (errI ea 14) (errI ea 4)).run Tryz.prog w = .ok (.bool false) w := errI_eq h 14 4 (by omega) (by omega)
  have c5 : w.cell? ⟨6, 0, none⟩ = some (errI ea 5) := h.cell 5 (by omega)
  have q5 : (binOp .eql 30 (errI ea 14) (errI ea 5)).run Tryz.prog w = .ok (.bool false) w := errI_eq h 14 5 (by omega) (by omega)
  have c6 : w.cell? ⟨7, 0, none⟩ = some (errI ea 6) := h.cell 6 (by omega)
  have q6 : (binOp .eql 30 (errI ea 14) (errI ea 6)).run Tryz.prog w = .ok (.bool false) w := errI_eq h 14 6 (by omega) (by omega)
  have c7 : w.cell? ⟨8, 0, none⟩ = some (errI ea 7) := h.cell 7 (by omega)
  have q7 : (binOp .eql 30 (errI ea 14) (errI ea 7)).run Tryz.prog w = .ok (.bool false) w := errI_eq h 14 7 (by omega) (by omega)
  have c8 : w.cell? ⟨9, 0, none⟩ = some (errI ea 8) := h.cell 8 (by omega)
  have q8 : (binOp .eql 30 (errI ea 14) (errI ea 8)).run Tryz.prog w = .ok (.bool false) w := errI_eq h 14 8 (by omega) (by omega)
  have c9 : w.cell? ⟨10, 0, none⟩ = some (errI ea 9) := h.cell 9 (by omega)
  have q9 : (binOp .eql 30 (errI ea 14) (errI ea 9)).run Tryz.prog w = .ok (.bool false) w := errI_eq h 14 9 (by omega) (by omega)
  have c10 : w.cell? ⟨11, 0, none⟩ = some (errI ea 10) := h.cell 10 (by omega)
  have q10 : (binOp .eql 30 (errI ea 14) (errI ea 10)).run Tryz.prog w = .ok (.bool false) w := errI_eq h 14 10 (by omega) (by omega)
  have c11 : w.cell? ⟨12, 0, none⟩ = some (errI ea 11) := h.cell 11 (by omega)
  have q11 : (binOp .eql 30 (errI ea 14) (errI ea 11)).run Tryz.prog w = .ok (.bool false) w := errI_eq h 14 11 (by omega) (by omega)
  have c12 : w.cell? ⟨13, 0, none⟩ = some (errI ea 12) := h.cell 12 (by omega)
  have q12 : (binOp .eql 30 (errI ea 14) (errI ea 12)).run Tryz.prog w = .ok (.bool false) w := errI_eq h 14 12 (by omega) (by omega)
  have c13 : w.cell? ⟨14, 0, none⟩ = some (errI ea 13) := h.cell 13 (by omega)
  have q13 : (binOp .eql 30 (errI ea 14) (errI ea 13)).run Tryz.prog w = .ok (.bool false) w := errI_eq h 14 13 (by omega) (by omega)
  have c14 : w.cell? ⟨15, 0, none⟩ = some (errI ea 14) := h.cell 14 (by omega)
  have q14 : (binOp .eql 30 (errI ea 14) (errI ea 14)).run Tryz.prog w = .ok (.bool true) w := errI_eq h 14 14 (by omega) (by omega)
  have n0 := errI_nil ea 14 w
  have n1 := fun op x y => errI_guard0 ea 14 op x y w
  have n2 := fun j op x y => errI_guard ea 14 j op x y w
  clear h
  go_enter Tryz.func9, Tryz.ntmps9
  go_wp2
  go_ret
  exact ⟨rfl, rfl⟩
theorem more_15 (ea : List Addr) (w : World) (h : ErrEnv w ea) : Calls Tryz.prog 22 #[errI ea 15] w fun e w' => e = .returned (.int .i64 16) ∧ w = w' := by
  have c15 : w.cell? ⟨0, 0, none⟩ = some (errI ea 15) := h.cell 15 (by omega)
  have q15 : (binOp .eql 30 (errI ea 15) (errI ea 15)).run Tryz.prog w = .ok (.bool true) w := errI_eq h 15 15 (by omega) (by omega)
  have n0 := errI_nil ea 15 w
  have n1 := fun op x y => errI_guard0 ea 15 op x y w
  have n2 := fun j op x y => errI_guard ea 15 j op x y w
  clear h
  go_enter Tryz.func22, Tryz.ntmps22
  go_wp2
  go_ret
  exact ⟨rfl, rfl⟩
theorem more_16 (ea : List Addr) (w : World) (h : ErrEnv w ea) : Calls Tryz.prog 22 #[errI ea 16] w fun e w' => e = .returned (.int .i64 17) ∧ w = w' := by
  have c15 : w.cell? ⟨0, 0, none⟩ = some (errI ea 15) := h.cell 15 (by omega)
  have q15 : (binOp .eql 30 (errI ea 16) (errI ea 15)).run Tryz.prog w = .ok (.bool false) w := errI_eq h 16 15 (by omega) (by omega)
  have c16 : w.cell? ⟨18, 0, none⟩ = some (errI ea 16) := h.cell 16 (by omega)
  have q16 : (binOp .eql 30 (errI ea 16) (errI ea 16)).run Tryz.prog w = .ok (.bool true) w := errI_eq h 16 16 (by omega) (by omega)
  have n0 := errI_nil ea 16 w
  have n1 := fun op x y => errI_guard0 ea 16 op x y w
  have n2 := fun j op x y => errI_guard ea 16 j op x y w
  clear h
  go_enter Tryz.func22, Tryz.ntmps22
  go_wp2
  go_ret
  exact ⟨rfl, rfl⟩
theorem more_17 (ea : List Addr) (w : World) (h : ErrEnv w ea) : Calls Tryz.prog 22 #[errI ea 17] w fun e w' => e = .returned (.int .i64 18) ∧ w = w' := by
  have c15 : w.cell? ⟨0, 0, none⟩ = some (errI ea 15) := h.cell 15 (by omega)
  have q15 : (binOp .eql 30 (errI ea 17) (errI ea 15)).run Tryz.prog w = .ok (.bool false) w := errI_eq h 17 15 (by omega) (by omega)
  have c16 : w.cell? ⟨18, 0, none⟩ = some (errI ea 16) := h.cell 16 (by omega)
  have q16 : (binOp .eql 30 (errI ea 17) (errI ea 16)).run Tryz.prog w = .ok (.bool false) w := errI_eq h 17 16 (by omega) (by omega)
  have c17 : w.cell? ⟨19, 0, none⟩ = some (errI ea 17) := h.cell 17 (by omega)
  have q17 : (binOp .eql 30 (errI ea 17) (errI ea 17)).run Tryz.prog w = .ok (.bool true) w := errI_eq h 17 17 (by omega) (by omega)
  have n0 := errI_nil ea 17 w
  have n1 := fun op x y => errI_guard0 ea 17 op x y w
  have n2 := fun j op x y => errI_guard ea 17 j op x y w
  clear h
  go_enter Tryz.func22, Tryz.ntmps22
  go_wp2
  go_ret
  exact ⟨rfl, rfl⟩
theorem more_18 (ea : List Addr) (w : World) (h : ErrEnv w ea) : Calls Tryz.prog 22 #[errI ea 18] w fun e w' => e = .returned (.int .i64 19) ∧ w = w' := by
  have c15 : w.cell? ⟨0, 0, none⟩ = some (errI ea 15) := h.cell 15 (by omega)
  have q15 : (binOp .eql 30 (errI ea 18) (errI ea 15)).run Tryz.prog w = .ok (.bool false) w := errI_eq h 18 15 (by omega) (by omega)
  have c16 : w.cell? ⟨18, 0, none⟩ = some (errI ea 16) := h.cell 16 (by omega)
  have q16 : (binOp .eql 30 (errI ea 18) (errI ea 16)).run Tryz.prog w = .ok (.bool false) w := errI_eq h 18 16 (by omega) (by omega)
  have c17 : w.cell? ⟨19, 0, none⟩ = some (errI ea 17) := h.cell 17 (by omega)
  have q17 : (binOp .eql 30 (errI ea 18) (errI ea 17)).run Tryz.prog w = .ok (.bool false) w := errI_eq h 18 17 (by omega) (by omega)
  have c18 : w.cell? ⟨20, 0, none⟩ = some (errI ea 18) := h.cell 18 (by omega)
  have q18 : (binOp .eql 30 (errI ea 18) (errI ea 18)).run Tryz.prog w = .ok (.bool true) w := errI_eq h 18 18 (by omega) (by omega)
  have n0 := errI_nil ea 18 w
  have n1 := fun op x y => errI_guard0 ea 18 op x y w
  have n2 := fun j op x y => errI_guard ea 18 j op x y w
  clear h
  go_enter Tryz.func22, Tryz.ntmps22
  go_wp2
  go_ret
  exact ⟨rfl, rfl⟩
theorem more_19 (ea : List Addr) (w : World) (h : ErrEnv w ea) : Calls Tryz.prog 22 #[errI ea 19] w fun e w' => e = .returned (.int .i64 20) ∧ w = w' := by
  have c15 : w.cell? ⟨0, 0, none⟩ = some (errI ea 15) := h.cell 15 (by omega)
  have q15 : (binOp .eql 30 (errI ea 19) (errI ea 15)).run Tryz.prog w = .ok (.bool false) w := errI_eq h 19 15 (by omega) (by omega)
  have c16 : w.cell? ⟨18, 0, none⟩ = some (errI ea 16) := h.cell 16 (by omega)
  have q16 : (binOp .eql 30 (errI ea 19) (errI ea 16)).run Tryz.prog w = .ok (.bool false) w := errI_eq h 19 16 (by omega) (by omega)
  have c17 : w.cell? ⟨19, 0, none⟩ = some (errI ea 17) := h.cell 17 (by omega)
  have q17 : (binOp .eql 30 (errI ea 19) (errI ea 17)).run Tryz.prog w = .ok (.bool false) w := errI_eq h 19 17 (by omega) (by omega)
  have c18 : w.cell? ⟨20, 0, none⟩ = some (errI ea 18) := h.cell 18 (by omega)
  have q18 : (binOp .eql 30 (errI ea 19) (errI ea 18)).run Tryz.prog w = .ok (.bool false) w := errI_eq h 19 18 (by omega) (by omega)
  have c19 : w.cell? ⟨21, 0, none⟩ = some (errI ea 19) := h.cell 19 (by omega)
  have q19 : (binOp .eql 30 (errI ea 19) (errI ea 19)).run Tryz.prog w = .ok (.bool true) w := errI_eq h 19 19 (by omega) (by omega)
  have n0 := errI_nil ea 19 w
  have n1 := fun op x y => errI_guard0 ea 19 op x y w
  have n2 := fun j op x y => errI_guard ea 19 j op x y w
  clear h
  go_enter Tryz.func22, Tryz.ntmps22
  go_wp2
  go_ret
  exact ⟨rfl, rfl⟩
theorem more_20 (ea : List Addr) (w : World) (h : ErrEnv w ea) : Calls Tryz.prog 22 #[errI ea 20] w fun e w' => e = .returned (.int .i64 21) ∧ w = w' := by
  have c15 : w.cell? ⟨0, 0, none⟩ = some (errI ea 15) := h.cell 15 (by omega)
  have q15 : (binOp .eql 30 (errI ea 20) (errI ea 15)).run Tryz.prog w = .ok (.bool false) w := errI_eq h 20 15 (by omega) (by omega)
  have c16 : w.cell? ⟨18, 0, none⟩ = some (errI ea 16) := h.cell 16 (by omega)
  have q16 : (binOp .eql 30 (errI ea 20) (errI ea 16)).run Tryz.prog w = .ok (.bool false) w := errI_eq h 20 16 (by omega) (by omega)
  have c17 : w.cell? ⟨19, 0, none⟩ = some (errI ea 17) := h.cell 17 (by omega)
  have q17 : (binOp .eql 30 (errI ea 20) (errI ea 17)).run Tryz.prog w = .ok (.bool false) w := errI_eq h 20 17 (by omega) (by omega)
  have c18 : w.cell? ⟨20, 0, none⟩ = some (errI ea 18) := h.cell 18 (by omega)
  have q18 : (binOp .eql 30 (errI ea 20) (errI ea 18)).run Tryz.prog w = .ok (.bool false) w := errI_eq h 20 18 (by omega) (by omega)
  have c19 : w.cell? ⟨21, 0, none⟩ = some (errI ea 19) := h.cell 19 (by omega)
  have q19 : (binOp .eql 30 (errI ea 20) (errI ea 19)).run Tryz.prog w = .ok (.bool false) w := errI_eq h 20 19 (by omega) (by omega)
  have c20 : w.cell? ⟨16, 0, none⟩ = some (errI ea 20) := h.cell 20 (by omega)
  have q20 : (binOp .eql 30 (errI ea 20) (errI ea 20)).run Tryz.prog w = .ok (.bool true) w := errI_eq h 20 20 (by omega) (by omega)
  have n0 := errI_nil ea 20 w
  have n1 := fun op x y => errI_guard0 ea 20 op x y w
  have n2 := fun j op x y => errI_guard ea 20 j op x y w
  clear h
  go_enter Tryz.func22, Tryz.ntmps22
  go_wp2
  go_ret
  exact ⟨rfl, rfl⟩
theorem more_21 (ea : List Addr) (w : World) (h : ErrEnv w ea) : Calls Tryz.prog 22 #[errI ea 21] w fun e w' => e = .returned (.int .i64 22) ∧ w = w' := by
  have c15 : w.cell? ⟨0, 0, none⟩ = some (errI ea 15) := h.cell 15 (by omega)
  have q15 : (binOp .eql 30 (errI ea 21) (errI ea 15)).run Tryz.prog w = .ok (.bool false) w := errI_eq h 21 15 (by omega) (by omega)
  have c16 : w.cell? ⟨18, 0, none⟩ = some (errI ea 16) := h.cell 16 (by omega)
  have q16 : (binOp .eql 30 (errI ea 21) (errI ea 16)).run Tryz.prog w = .ok (.bool false) w := errI_eq h 21 16 (by omega) (by omega)
  have c17 : w.cell? ⟨19, 0, none⟩ = some (errI ea 17) := h.cell 17 (by omega)
  have q17 : (binOp .eql 30 (errI ea 21) (errI ea 17)).run Tryz.prog w = .ok (.bool false) w := errI_eq h 21 17 (by omega) (by omega)
  have c18 : w.cell? ⟨20, 0, none⟩ = some (errI ea 18) := h.cell 18 (by omega)
  have q18 : (binOp .eql 30 (errI ea 21) (errI ea 18)).run Tryz.prog w = .ok (.bool false) w := errI_eq h 21 18 (by omega) (by omega)
  have c19 : w.cell? ⟨21, 0, none⟩ = some (errI ea 19) := h.cell 19 (by omega)
  have q19 : (binOp .eql 30 (errI ea 21) (errI ea 19)).run Tryz.prog w = .ok (.bool false) w := errI_eq h 21 19 (by omega) (by omega)
  have c20 : w.cell? ⟨16, 0, none⟩ = some (errI ea 20) := h.cell 20 (by omega)
  have q20 : (binOp .eql 30 (errI ea 21) (errI ea 20)).run Tryz.prog w = .ok (.bool false) w := errI_eq h 21 20 (by omega) (by omega)
  have c21 : w.cell? ⟨22, 0, none⟩ = some (errI ea 21) := h.cell 21 (by omega)
  have q21 : (binOp .eql 30 (errI ea 21) (errI ea 21)).run Tryz.prog w = .ok (.bool true) w := errI_eq h 21 21 (by omega) (by omega)
  have n0 := errI_nil ea 21 w
  have n1 := fun op x y => errI_guard0 ea 21 op x y w
  have n2 := fun j op x y => errI_guard ea 21 j op x y w
  clear h
  go_enter Tryz.func22, Tryz.ntmps22
  go_wp2
  go_ret
  exact ⟨rfl, rfl⟩
theorem more_22 (ea : List Addr) (w : World) (h : ErrEnv w ea) : Calls Tryz.prog 22 #[errI ea 22] w fun e w' => e = .returned (.int .i64 23) ∧ w = w' := by
  have c15 : w.cell? ⟨0, 0, none⟩ = some (errI ea 15) := h.cell 15 (by omega)
  have q15 : (binOp .eql 30 (errI ea 22) (errI ea 15)).run Tryz.prog w = .ok (.bool false) w := errI_eq h 22 15 (by omega) (by omega)
  have c16 : w.cell? ⟨18, 0, none⟩ = some (errI ea 16) := h.cell 16 (by omega)
  have q16 : (binOp .eql 30 (errI ea 22) (errI ea 16)).run Tryz.prog w = .ok (.bool false) w := errI_eq h 22 16 (by omega) (by omega)
  have c17 : w.cell? ⟨19, 0, none⟩ = some (errI ea 17) := h.cell 17 (by omega)
  have q17 : (binOp .eql 30 (errI ea 22) (errI ea 17)).run Tryz.prog w = .ok (.bool false) w := errI_eq h 22 17 (by omega) (by omega)
  have c18 : w.cell? ⟨20, 0, none⟩ = some (errI ea 18) := h.cell 18 (by omega)
  have q18 : (binOp .eql 30 (errI ea 22) (errI ea 18)).run Tryz.prog w = .ok (.bool false) w := errI_eq h 22 18 (by omega) (by omega)
  have c19 : w.cell? ⟨21, 0, none⟩ = some (errI ea 19) := h.cell 19 (by omega)
  have q19 : (binOp .eql 30 (errI ea 22) (errI ea 19)).run Tryz.prog w = .ok (.bool false) w := errI_eq h 22 19 (by omega) (by omega)
  have c20 : w.cell? ⟨16, 0, none⟩ = some (errI ea 20) := h.cell 20 (by omega)
  have q20 : (binOp .eql 30 (errI ea 22) (errI ea 20)).run Tryz.prog w = .ok (.bool false) w := errI_eq h 22 20 (by omega) (by omega)
  have c21 : w.cell? ⟨22, 0, none⟩ = some (errI ea 21) := h.cell 21 (by omega)
  have q21 : (binOp .eql 30 (errI ea 22) (errI ea 21)).run Tryz.prog w = .ok (.bool false) w := errI_eq h 22 21 (by omega) (by omega)
  have c22 : w.cell? ⟨23, 0, none⟩ = some (errI ea 22) := h.cell 22 (by omega)
  have q22 : (binOp .eql 30 (errI ea 22) (errI ea 22)).run Tryz.prog w = .ok (.bool true) w := errI_eq h 22 22 (by omega) (by omega)
  have n0 := errI_nil ea 22 w
  have n1 := fun op x y => errI_guard0 ea 22 op x y w
  have n2 := fun j op x y => errI_guard ea 22 j op x y w
  clear h
  go_enter Tryz.func22, Tryz.ntmps22
  go_wp2
  go_ret
  exact ⟨rfl, rfl⟩
theorem more_23 (ea : List Addr) (w : World) (h : ErrEnv w ea) : Calls Tryz.prog 22 #[errI ea 23] w fun e w' => e = .returned (.int .i64 24) ∧ w = w' := by
  have c15 : w.cell? ⟨0, 0, none⟩ = some (errI ea 15) := h.cell 15 (by omega)
  have q15 : (binOp .eql 30 (errI ea 23) (errI ea 15)).run Tryz.prog w = .ok (.bool false) w := errI_eq h 23 15 (by omega) (by omega)
  have c16 : w.cell? ⟨18, 0, none⟩ = some (errI ea 16) := h.cell 16 (by omega)
  have q16 : (binOp .eql 30 (errI ea 23) (errI ea 16)).run Tryz.prog w = .ok (.bool false) w := errI_eq h 23 16 (by omega) (by omega)
  have c17 : w.cell? ⟨19, 0, none⟩ = some (errI ea 17) := h.cell 17 (by omega)
  have q17 : (binOp .eql 30 (errI ea 23) (errI ea 17)).run Tryz.prog w = .ok (.bool false) w := errI_eq h 23 17 (by omega) (by omega)
  have c18 : w.cell? ⟨20, 0, none⟩ = some (errI ea 18) := h.cell 18 (by omega)
  have q18 : (binOp .eql 30 (errI ea 23) (errI ea 18)).run Tryz.prog w = .ok (.bool false) w := errI_eq h 23 18 (by omega) (by omega)
  have c19 : w.cell? ⟨21, 0, none⟩ = some (errI ea 19) := h.cell 19 (by omega)
  have q19 : (binOp .eql 30 (errI ea 23) (errI ea 19)).run Tryz.prog w = .ok (.bool false) w := errI_eq h 23 19 (by omega) (by omega)
  have c20 : w.cell? ⟨16, 0, none⟩ = some (errI ea 20) := h.cell 20 (by omega)
  have q20 : (binOp .eql 30 (errI ea 23) (errI ea 20)).run Tryz.prog w = .ok (.bool false) w := errI_eq h 23 20 (by omega) (by omega)
  have c21 : w.cell? ⟨22, 0, none⟩ = some (errI ea 21) := h.cell 21 (by omega)
  have q21 : (binOp .eql 30 (errI ea 23) (errI ea 21)).run Tryz.prog w = .ok (.bool false) w := errI_eq h 23 21 (by omega) (by omega)
  have c22 : w.cell? ⟨23, 0, none⟩ = some (errI ea 22) := h.cell 22 (by omega)
  have q22 : (binOp .eql 30 (errI ea 23) (errI ea 22)).run Tryz.prog w = .ok (.bool false) w := errI_eq h 23 22 (by omega) (by omega)
  have c23 : w.cell? ⟨24, 0, none⟩ = some (errI ea 23) := h.cell 23 (by omega)
  have q23 : (binOp .eql 30 (errI ea 23) (errI ea 23)).run Tryz.prog w = .ok (.bool true) w := errI_eq h 23 23 (by omega) (by omega)
  have n0 := errI_nil ea 23 w
  have n1 := fun op x y => errI_guard0 ea 23 op x y w
  have n2 := fun j op x y => errI_guard ea 23 j op x y w
  clear h
  go_enter Tryz.func22, Tryz.ntmps22
  go_wp2
  go_ret
  exact ⟨rfl, rfl⟩
theorem Num_15 (ea : List Addr) (w : World) (h : ErrEnv w ea) : Calls Tryz.prog 9 #[errI ea 15] w fun e w' => e = .returned (.int .i64 16) ∧ w = w' := by
  have c0 : w.cell? ⟨1, 0, none⟩ = some (errI ea 0) := h.cell 0 (by omega)
  have q0 : (binOp .eql 30 (errI ea 15) (errI ea 0)).run Tryz.prog w = .ok (.bool false) w := errI_eq h 15 0 (by omega) (by omega)
  have c1 : w.cell? ⟨2, 0, none⟩ = some (errI ea 1) := h.cell 1 (by omega)
  have q1 : (binOp .eql 30 (errI ea 15) (errI ea 1)).run Tryz.prog w = .ok (.bool false) w := errI_eq h 15 1 (by omega) (by omega)
  have c2 : w.cell? ⟨3, 0, none⟩ = some (errI ea 2) := h.cell 2 (by omega)
  have q2 : (binOp .eql 30 (errI ea 15) (errI ea 2)).run Tryz.prog w = .ok (.bool false) w := errI_eq h 15 2 (by omega) (by omega)
  have c3 : w.cell? ⟨4, 0, none⟩ = some (errI ea 3) := h.cell 3 (by omega)
  have q3 : (binOp .eql 30 (errI ea 15) (errI ea 3)).run Tryz.prog w = .ok (.bool false) w := errI_eq h 15 3 (by omega) (by omega)
  have c4 : w.cell? ⟨5, 0, none⟩ = some (errI ea 4) := h.cell 4 (by omega)
  have q4 : (binOp .eql 30 (errI ea 15) (errI ea 4)).run Tryz.prog w = .ok (.bool false) w := errI_eq h 15 4 (by omega) (by omega)
  have c5 : w.cell? ⟨6, 0, none⟩ = some (errI ea 5) := h.cell 5 (by omega)
  have q5 : (binOp .eql 30 (errI ea 15) (errI ea 5)).run Tryz.prog w = .ok (.bool false) w := errI_eq h 15 5 (by omega) (by omega)
  have c6 : w.cell? ⟨7, 0, none⟩ = some (errI ea 6) := h.cell 6 (by omega)
  have q6 : (binOp .eql 30 (errI ea 15) (errI ea 6)).run Tryz.prog w = .ok (.bool false) w := errI_eq h 15 6 (by omega) (by omega)
  have c7 : w.cell? ⟨8, 0, none⟩ = some (errI ea 7) := h.cell 7 (by omega)
  have q7 : (binOp .eql 30 (errI ea 15) (errI ea 7)).run Tryz.prog w = .ok (.bool false) w := errI_eq h 15 7 (by omega) (by omega)
  have c8 : w.cell? ⟨9, 0, none⟩ = some (errI ea 8) := h.cell 8 (by omega)
  have q8 : (binOp .eql 30 (errI ea 15) (errI ea 8)).run Tryz.prog w = .ok (.bool false) w := errI_eq h 15 8 (by omega) (by omega)
  have c9 : w.cell? ⟨10, 0, none⟩ = some (errI ea 9) := h.cell 9 (by omega)
  have q9 : (binOp .eql 30 (errI ea 15) (errI ea 9)).run Tryz.prog w = .ok (.bool false) w := errI_eq h 15 9 (by omega) (by omega)
  have c10 : w.cell? ⟨11, 0, none⟩ = some (errI ea 10) := h.cell 10 (by omega)
  have q10 : (binOp .eql 30 (errI ea 15) (errI ea 10)).run Tryz.prog w = .ok (.bool false) w := errI_eq h 15 10 (by omega) (by omega)
  have c11 : w.cell? ⟨12, 0, none⟩ = some (errI ea 11) := h.cell 11 (by omega)
  have q11 : (binOp .eql 30 (errI ea 15) (errI ea 11)).run Tryz.prog w = .ok (.bool false) w := errI_eq h 15 11 (by omega) (by omega)
  have c12 : w.cell? ⟨13, 0, none⟩ = some (errI ea 12) := h.cell 12 (by omega)
  have q12 : (binOp .eql 30 (errI ea 15) (errI ea 12)).run Tryz.prog w = .ok (.bool false) w := errI_eq h 15 12 (by omega) (by omega)
  have c13 : w.cell? ⟨14, 0, none⟩ = some (errI ea 13) := h.cell 13 (by omega)
  have q13 : (binOp .eql 30 (errI ea 15) (errI ea 13)).run Tryz.prog w = .ok (.bool false) w := errI_eq h 15 13 (by omega) (by omega)
  have c14 : w.cell? ⟨15, 0, none⟩ = some (errI ea 14) := h.cell 14 (by omega)
  have q14 : (binOp .eql 30 (errI ea 15) (errI ea 14)).run Tryz.prog w = .ok (.bool false) w := errI_eq h 15 14 (by omega) (by omega)
  have n0 := errI_nil ea 15 w
  have n1 := fun op x y => errI_guard0 ea 15 op x y w
  have n2 := fun j op x y => errI_guard ea 15 j op x y w
  have H := Lib.hid h; clear h
  go_enter Tryz.func9, Tryz.ntmps9
  go_wp2_with fail
  refine (more_15 ea w H.out).mono ?_
  rintro e w' ⟨rfl, rfl⟩
  go_wp2
  go_ret
  exact ⟨rfl, rfl⟩
theorem Num_16 (ea : List Addr) (w : World) (h : ErrEnv w ea) : Calls Tryz.prog 9 #[errI ea 16] w fun e w' => e = .returned (.int .i64 17) ∧ w = w' := by
  have c0 : w.cell? ⟨1, 0, none⟩ = some (errI ea 0) := h.cell 0 (by omega)
  have q0 : (binOp .eql 30 (errI ea 16) (errI ea 0)).run Tryz.prog w = .ok (.bool false) w := errI_eq h 16 0 (by omega) (by omega)
  have c1 : w.cell? ⟨2, 0, none⟩ = some (errI ea 1) := h.cell 1 (by omega)
  have q1 : (binOp .eql 30 (errI ea 16) (errI ea 1)).run Tryz.prog w = .ok (.bool false) w := errI_eq h 16 1 (by omega) (by omega)
  have c2 : w.cell? ⟨3, 0, none⟩ = some (errI ea 2) := h.cell 2 (by omega)
  have q2 : (binOp .eql 30 (errI ea 16) (errI ea 2)).run Tryz.prog w = .ok (.bool false) w := errI_eq h 16 2 (by omega) (by omega)
  have c3 : w.cell? ⟨4, 0, none⟩ = some (errI ea 3) := h.cell 3 (by omega)
  have q3 : (binOp .eql 30 (errI ea 16) (errI ea 3)).run Tryz.prog w = .ok (.bool false) w := errI_eq h 16 3 (by omega) (by omega)
  have c4 : w.cell? ⟨5, 0, none⟩ = some (errI ea 4) := h.cell 4 (by omega)
  have q4 : (binOp .eql 30 (errI ea 16) (errI ea 4)).run Tryz.prog w = .ok (.bool false) w := errI_eq h 16 4 (by omega) (by omega)
  have c5 : w.cell? ⟨6, 0, none⟩ = some (errI ea 5) := h.cell 5 (by omega)
  have q5 : (binOp .eql 30 (errI ea 16) (errI ea 5)).run Tryz.prog w = .ok (.bool false) w := errI_eq h 16 5 (by omega) (by omega)
  have c6 : w.cell? ⟨7, 0, none⟩ = some (errI ea 6) := h.cell 6 (by omega)
  have q6 : (binOp .eql 30 (errI ea 16) (errI ea 6)).run Tryz.prog w = .ok (.bool false) w := errI_eq h 16 6 (by omega) (by omega)
  have c7 : w.cell? ⟨8, 0, none⟩ = some (errI ea 7) := h.cell 7 (by omega)
  have q7 : (binOp .eql 30 (errI ea 16) (errI ea 7)).run Tryz.prog w = .ok (.bool false) w := errI_eq h 16 7 (by omega) (by omega)
  have c8 : w.cell? ⟨9, 0, none⟩ = some (errI ea 8) := h.cell 8 (by omega)
  have q8 : (binOp .eql 30 (errI ea 16) (errI ea 8)).run Tryz.prog w = .ok (.bool false) w := errI_eq h 16 8 (by omega) (by omega)
  have c9 : w.cell? ⟨10, 0, none⟩ = some (errI ea 9) := h.cell 9 (by omega)
  have q9 : (binOp .eql 30 (errI ea 16) (errI ea 9)).run Tryz.prog w = .ok (.bool false) w := errI_eq h 16 9 (by omega) (by omega)
  have c10 : w.cell? ⟨11, 0, none⟩ = some (errI ea 10) := h.cell 10 (by omega)
  have q10 : (binOp .eql 30 (errI ea 16) (errI ea 10)).run Tryz.prog w = .ok (.bool false) w := errI_eq h 16 10 (by omega) (by omega)
  have c11 : w.cell? ⟨12, 0, none⟩ = some (errI ea 11) := h.cell 11 (by omega)
  have q11 : (binOp .eql 30 (errI ea 16) (errI ea 11)).run Tryz.prog w = .ok (.bool false) w := errI_eq h 16 11 (by omega) (by omega)
  have c12 : w.cell? ⟨13, 0, none⟩ = some (errI ea 12) := h.cell 12 (by omega)
  have q12 : (binOp .eql 30 (errI ea 16) (errI ea 12)).run Tryz.prog w = .ok (.bool false) w := errI_eq h 16 12 (by omega) (by omega)
  have c13 : w.cell? ⟨14, 0, none⟩ = some (errI ea 13) := h.cell 13 (by omega)
  have q13 : (binOp .eql 30 (errI ea 16) (errI ea 13)).run Tryz.prog w = .ok (.bool false) w := errI_eq h 16 13 (by omega) (by omega)
  have c14 : w.cell? ⟨15, 0, none⟩ = some (errI ea 14) := h.cell 14 (by omega)
  have q14 : (binOp .eql 30 (errI ea 16) (errI ea 14)).run Tryz.prog w = .ok (.bool false) w := errI_eq h 16 14 (by omega) (by omega)
  have n0 := errI_nil ea 16 w
  have n1 := fun op x y => errI_guard0 ea 16 op x y w
  have n2 := fun j op x y => errI_guard ea 16 j op x y w
  have H := Lib.hid h; clear h
  go_enter Tryz.func9, Tryz.ntmps9
  go_wp2_with fail
  refine (more_16 ea w H.out).mono ?_
  rintro e w' ⟨rfl, rfl⟩
  go_wp2
  go_ret
  exact ⟨rfl, rfl⟩
theorem Num_17 (ea : List Addr) (w : World) (h : ErrEnv w ea) : Calls Tryz.prog 9 #[errI ea 17] w fun e w' => e = .returned (.int .i64 18) ∧ w = w' := by
  have c0 : w.cell? ⟨1, 0, none⟩ = some (errI ea 0) := h.cell 0 (by omega)
  have q0 : (binOp .eql 30 (errI ea 17) (errI ea 0)).run Tryz.prog w = .ok (.bool false) w := errI_eq h 17 0 (by omega) (by omega)
  have c1 : w.cell? ⟨2, 0, none⟩ = some (errI ea 1) := h.cell 1 (by omega)
  have q1 : (binOp .eql 30 (errI ea 17) (errI ea 1)).run Tryz.prog w = .ok (.bool false) w := errI_eq h 17 1 (by omega) (by omega)
  have c2 : w.cell? ⟨3, 0, none⟩ = some (errI ea 2) := h.cell 2 (by omega)
  have q2 : (binOp .eql 30 (errI ea 17) (errI ea 2)).run Tryz.prog w = .ok (.bool false) w := errI_eq h 17 2 (by omega) (by omega)
  have c3 : w.cell? ⟨4, 0, none⟩ = some (errI ea 3) := h.cell 3 (by omega)
  have q3 : (binOp .eql 30 (errI ea 17) (errI ea 3)).run Tryz.prog w = .ok (.bool false) w := errI_eq h 17 3 (by omega) (by omega)
  have c4 : w.cell? ⟨5, 0, none⟩ = some (errI ea 4) := h.cell 4 (by omega)
  have q4 : (binOp .eql 30 (errI ea 17) (errI ea 4)).run Tryz.prog w = .ok (.bool false) w := errI_eq h 17 4 (by omega) (by omega)
  have c5 : w.cell? ⟨6, 0, none⟩ = some (errI ea 5) := h.cell 5 (by omega)
  have q5 : (binOp .eql 30 (errI ea 17) (errI ea 5)).run Tryz.prog w = .ok (.bool false) w := errI_eq h 17 5 (by omega) (by omega)
  have c6 : w.cell? ⟨7, 0, none⟩ = some (errI ea 6) := h.cell 6 (by omega)
  have q6 : (binOp .eql 30 (errI ea 17) (errI ea 6)).run Tryz.prog w = .ok (.bool false) w := errI_eq h 17 6 (by omega) (by omega)
  have c7 : w.cell? ⟨8, 0, none⟩ = some (errI ea 7) := h.cell 7 (by omega)
  have q7 : (binOp .eql 30 (errI ea 17) (errI ea 7)).run Tryz.prog w = .ok (.bool false) w := errI_eq h 17 7 (by omega) (by omega)
  have c8 : w.cell? ⟨9, 0, none⟩ = some (errI ea 8) := h.cell 8 (by omega)
  have q8 : (binOp .eql 30 (errI ea 17) (errI ea 8)).run Tryz.prog w = .ok (.bool false) w := errI_eq h 17 8 (by omega) (by omega)
  have c9 : w.cell? ⟨10, 0, none⟩ = some (errI ea 9) := h.cell 9 (by omega)
  have q9 : (binOp .eql 30 (errI ea 17) (errI ea 9)).run Tryz.prog w = .ok (.bool false) w := errI_eq h 17 9 (by omega) (by omega)
  have c10 : w.cell? ⟨11, 0, none⟩ = some (errI ea 10) := h.cell 10 (by omega)
  have q10 : (binOp .eql 30 (errI ea 17) (errI ea 10)).run Tryz.prog w = .ok (.bool false) w := errI_eq h 17 10 (by omega) (by omega)
  have c11 : w.cell? ⟨12, 0, none⟩ = some (errI ea 11) := h.cell 11 (by omega)
  have q11 : (binOp .eql 30 (errI ea 17) (errI ea 11)).run Tryz.prog w = .ok (.bool false) w := errI_eq h 17 11 (by omega) (by omega)
  have c12 : w.cell? ⟨13, 0, none⟩ = some (errI ea 12) := h.cell 12 (by omega)
  have q12 : (binOp .eql 30 (errI ea 17) (errI ea 12)).run Tryz.prog w = .ok (.bool false) w := errI_eq h 17 12 (by omega) (by omega)
  have c13 : w.cell? ⟨14, 0, none⟩ = some (errI ea 13) := h.cell 13 (by omega)
  have q13 : (binOp .eql 30 (errI ea 17) (errI ea 13)).run Tryz.prog w = .ok (.bool false) w := errI_eq h 17 13 (by omega) (by omega)
  have c14 : w.cell? ⟨15, 0, none⟩ = some (errI ea 14) := h.cell 14 (by omega)
  have q14 : (binOp .eql 30 (errI ea 17) (errI ea 14)).run Tryz.prog w = .ok (.bool false) w := errI_eq h 17 14 (by omega) (by omega)
  have n0 := errI_nil ea 17 w
  have n1 := fun op x y => errI_guard0 ea 17 op x y w
  have n2 := fun j op x y => errI_guard ea 17 j op x y w
  have H := Lib.hid h; clear h
  go_enter Tryz.func9, Tryz.ntmps9
  go_wp2_with fail
  refine (more_17 ea w H.out).mono ?_
  rintro e w' ⟨rfl, rfl⟩
  go_wp2
  go_ret
  exact ⟨rfl, rfl⟩
theorem Num_18 (ea : List Addr) (w : World) (h : ErrEnv w ea) : Calls Tryz.prog 9 #[errI ea 18] w fun e w' => e = .returned (.int .i64 19) ∧ w = w' := by
  have c0 : w.cell? ⟨1, 0, none⟩ = some (errI ea 0) := h.cell 0 (by omega)
  have q0 : (binOp .eql 30 (errI ea 18) (errI ea 0)).run Tryz.prog w = .ok (.bool false) w := errI_eq h 18 0 (by omega) (by omega)
  have c1 : w.cell? ⟨2, 0, none⟩ = some (errI ea 1) := h.cell 1 (by omega)
  have q1 : (binOp .eql 30 (errI ea 18) (errI ea 1)).run Tryz.prog w = .ok (.bool false) w := errI_eq h 18 1 (by omega) (by omega)
  have c2 : w.cell? ⟨3, 0, none⟩ = some (errI ea 2) := h.cell 2 (by omega)
  have q2 : (binOp .eql 30 (errI ea 18) (errI ea 2)).run Tryz.prog w = .ok (.bool false) w := errI_eq h 18 2 (by omega) (by omega)
  have c3 : w.cell? ⟨4, 0, none⟩ = some (errI ea 3) := h.cell 3 (by omega)
  have q3 : (binOp .eql 30 (errI ea 18) (errI ea 3)).run Tryz.prog w = .ok (.bool false) w := errI_eq h 18 3 (by omega) (by omega)
  have c4 : w.cell? ⟨5, 0, none⟩ = some (errI ea 4) := h.cell 4 (by omega)
  have q4 : (binOp .eql 30 (errI ea 18) (errI ea 4)).run Tryz.prog w = .ok (.bool false) w := errI_eq h 18 4 (by omega) (by omega)
  have c5 : w.cell? ⟨6, 0, none⟩ = some (errI ea 5) := h.cell 5 (by omega)
  have q5 : (binOp .eql 30 (errI ea 18) (errI ea 5)).run Tryz.prog w = .ok (.bool false) w := errI_eq h 18 5 (by omega) (by omega)
  have c6 : w.cell? ⟨7, 0, none⟩ = some (errI ea 6) := h.cell 6 (by omega)
  have q6 : (binOp .eql 30 (errI ea 18) (errI ea 6)).run Tryz.prog w = .ok (.bool false) w := errI_eq h 18 6 (by omega) (by omega)
  have c7 : w.cell? ⟨8, 0, none⟩ = some (errI ea 7) := h.cell 7 (by omega)
  have q7 : (binOp .eql 30 (errI ea 18) (errI ea 7)).run Tryz.prog w = .ok (.bool false) w := errI_eq h 18 7 (by omega) (by omega)
  have c8 : w.cell? ⟨9, 0, none⟩ = some (errI ea 8) := h.cell 8 (by omega)
  have q8 : (binOp .eql 30 (errI ea 18) (errI ea 8)).run Tryz.prog w = .ok (.bool false) w := errI_eq h 18 8 (by omega) (by omega)
  have c9 : w.cell? ⟨10, 0, none⟩ = some (errI ea 9) := h.cell 9 (by omega)
  have q9 : (binOp .eql 30 (errI ea 18) (errI ea 9)).run Tryz.prog w = .ok (.bool false) w := errI_eq h 18 9 (by omega) (by omega)
  have c10 : w.cell? ⟨11, 0, none⟩ = some (errI ea 10) := h.cell 10 (by omega)
  have q10 : (binOp .eql 30 (errI ea 18) (errI ea 10)).run Tryz.prog w = .ok (.bool false) w := errI_eq h 18 10 (by omega) (by omega)
  have c11 : w.cell? ⟨12, 0, none⟩ = some (errI ea 11) := h.cell 11 (by omega)
  have q11 : (binOp .eql 30 (errI ea 18) (errI ea 11)).run Tryz.prog w = .ok (.bool false) w := errI_eq h 18 11 (by omega) (by omega)
  have c12 : w.cell? ⟨13, 0, none⟩ = some (errI ea 12) := h.cell 12 (by omega)
  have q12 : (binOp .eql 30 (errI ea 18) (errI ea 12)).run Tryz.prog w = .ok (.bool false) w := errI_eq h 18 12 (by omega) (by omega)
  have c13 : w.cell? ⟨14, 0, none⟩ = some (errI ea 13) := h.cell 13 (by omega)
  have q13 : (binOp .eql 30 (errI ea 18) (errI ea 13)).run Tryz.prog w = .ok (.bool false) w := errI_eq h 18 13 (by omega) (by omega)
  have c14 : w.cell? ⟨15, 0, none⟩ = some (errI ea 14) := h.cell 14 (by omega)
  have q14 : (binOp .eql 30 (errI ea 18) (errI ea 14)).run Tryz.prog w = .ok (.bool false) w := errI_eq h 18 14 (by omega) (by omega)
  have n0 := errI_nil ea 18 w
  have n1 := fun op x y => errI_guard0 ea 18 op x y w
  have n2 := fun j op x y => errI_guard ea 18 j op x y w
  have H := Lib.hid h; clear h
  go_enter Tryz.func9, Tryz.ntmps9
  go_wp2_with fail
  refine (more_18 ea w H.out).mono ?_
  rintro e w' ⟨rfl, rfl⟩
  go_wp2
  go_ret
  exact ⟨rfl, rfl⟩
theorem Num_19 (ea : List Addr) (w : World) (h : ErrEnv w ea) : Calls Tryz.prog 9 #[errI ea 19] w fun e w' => e = .returned (.int .i64 20) ∧ w = w' := by
  have c0 : w.cell? ⟨1, 0, none⟩ = some (errI ea 0) := h.cell 0 (by omega)
  have q0 : (binOp .eql 30 (errI ea 19) (errI ea 0)).run Tryz.prog w = .ok (.bool false) w := errI_eq h 19 0 (by omega) (by omega)
  have c1 : w.cell? ⟨2, 0, none⟩ = some (errI ea 1) := h.cell 1 (by omega)
  have q1 : (binOp .eql 30 (errI ea 19) (errI ea 1)).run Tryz.prog w = .ok (.bool false) w := errI_eq h 19 1 (by omega) (by omega)
  have c2 : w.cell? ⟨3, 0, none⟩ = some (errI ea 2) := h.cell 2 (by omega)
  have q2 : (binOp .eql 30 (errI ea 19) (errI ea 2)).run Tryz.prog w = .ok (.bool false) w := errI_eq h 19 2 (by omega) (by omega)
  have c3 : w.cell? ⟨4, 0, none⟩ = some (errI ea 3) := h.cell 3 (by omega)
  have q3 : (binOp .eql 30 (errI ea 19) (errI ea 3)).run Tryz.prog w = .ok (.bool false) w := errI_eq h 19 3 (by omega) (by omega)
  have c4 : w.cell? ⟨5, 0, none⟩ = some (errI ea 4) := h.cell 4 (by omega)
  have q4 : (binOp .eql 30 (errI ea 19) (errI ea 4)).run Tryz.prog w = .ok (.bool false) w := errI_eq h 19 4 (by omega) (by omega)
  have c5 : w.cell? ⟨6, 0, none⟩ = some (errI ea 5) := h.cell 5 (by omega)
  have q5 : (binOp .eql 30 (errI ea 19) (errI ea 5)).run Tryz.prog w = .ok (.bool false) w := errI_eq h 19 5 (by omega) (by omega)
  have c6 : w.cell? ⟨7, 0, none⟩ = some (errI ea 6) := h.cell 6 (by omega)
  have q6 : (binOp .eql 30 (errI ea 19) (errI ea 6)).run Tryz.prog w = .ok (.bool false) w := errI_eq h 19 6 (by omega) (by omega)
  have c7 : w.cell? ⟨8, 0, none⟩ = some (errI ea 7) := h.cell 7 (by omega)
  have q7 : (binOp .eql 30 (errI ea 19) (errI ea 7)).run Tryz.prog w = .ok (.bool false) w := errI_eq h 19 7 (by omega) (by omega)
  have c8 : w.cell? ⟨9, 0, none⟩ = some (errI ea 8) := h.cell 8 (by omega)
  have q8 : (binOp .eql 30 (errI ea 19) (errI ea 8)).run Tryz.prog w = .ok (.bool false) w := errI_eq h 19 8 (by omega) (by omega)
  have c9 : w.cell? ⟨10, 0, none⟩ = some (errI ea 9) := h.cell 9 (by omega)
  have q9 : (binOp .eql 30 (errI ea 19) (errI ea 9)).run Tryz.prog w = .ok (.bool false) w := errI_eq h 19 9 (by omega) (by omega)
  have c10 : w.cell? ⟨11, 0, none⟩ = some (errI ea 10) := h.cell 10 (by omega)
  have q10 : (binOp .eql 30 (errI ea 19) (errI ea 10)).run Tryz.prog w = .ok (.bool false) w := errI_eq h 19 10 (by omega) (by omega)
  have c11 : w.cell? ⟨12, 0, none⟩ = some (errI ea 11) := h.cell 11 (by omega)
  have q11 : (binOp .eql 30 (errI ea 19) (errI ea 11)).run Tryz.prog w = .ok (.bool false) w := errI_eq h 19 11 (by omega) (by omega)
  have c12 : w.cell? ⟨13, 0, none⟩ = some (errI ea 12) := h.cell 12 (by omega)
  have q12 : (binOp .eql 30 (errI ea 19) (errI ea 12)).run Tryz.prog w = .ok (.bool false) w := errI_eq h 19 12 (by omega) (by omega)
  have c13 : w.cell? ⟨14, 0, none⟩ = some (errI ea 13) := h.cell 13 (by omega)
  have q13 : (binOp .eql 30 (errI ea 19) (errI ea 13)).run Tryz.prog w = .ok (.bool false) w := errI_eq h 19 13 (by omega) (by omega)
  have c14 : w.cell? ⟨15, 0, none⟩ = some (errI ea 14) := h.cell 14 (by omega)
  have q14 : (binOp .eql 30 (errI ea 19) (errI ea 14)).run Tryz.prog w = .ok (.bool false) w := errI_eq h 19 14 (by omega) (by omega)
  have n0 := errI_nil ea 19 w
  have n1 := fun op x y => errI_guard0 ea 19 op x y w
  have n2 := fun j op x y => errI_guard ea 19 j op x y w
  have H := Lib.hid h; clear h
  go_enter Tryz.func9, Tryz.ntmps9
  go_wp2_with fail
  refine (more_19 ea w H.out).mono ?_
  rintro e w' ⟨rfl, rfl⟩
  go_wp2
  go_ret
  exact ⟨rfl, rfl⟩
theorem Num_20 (ea : List Addr) (w : World) (h : ErrEnv w ea) : Calls Tryz.prog 9 #[errI ea 20] w fun e w' => e = .returned (.int .i64 21) ∧ w = w' := by
  have c0 : w.cell? ⟨1, 0, none⟩ = some (errI ea 0) := h.cell 0 (by omega)
  have q0 : (binOp .eql 30 (errI ea 20) (errI ea 0)).run Tryz.prog w = .ok (.bool false) w := errI_eq h 20 0 (by omega) (by omega)
  have c1 : w.cell? ⟨2, 0, none⟩ = some (errI ea 1) := h.cell 1 (by omega)
  have q1 : (binOp .eql 30 (errI ea 20) (errI ea 1)).run Tryz.prog w = .ok (.bool false) w := errI_eq h 20 1 (by omega) (by omega)
  have c2 : w.cell? ⟨3, 0, none⟩ = some (errI ea 2) := h.cell 2 (by omega)
  have q2 : (binOp .eql 30 (errI ea 20) (errI ea 2)).run Tryz.prog w = .ok (.bool false) w := errI_eq h 20 2 (by omega) (by omega)
  have c3 : w.cell? ⟨4, 0, none⟩ = some (errI ea 3) := h.cell 3 (by omega)
  have q3 : (binOp .eql 30 (errI ea 20) (errI ea 3)).run Tryz.prog w = .ok (.bool false) w := errI_eq h 20 3 (by omega) (by omega)
  have c4 : w.cell? ⟨5, 0, none⟩ = some (errI ea 4) := h.cell 4 (by omega)
  have q4 : (binOp .eql 30 (errI ea 20) (errI ea 4)).run Tryz.prog w = .ok (.bool false) w := errI_eq h 20 4 (by omega) (by omega)
  have c5 : w.cell? ⟨6, 0, none⟩ = some (errI ea 5) := h.cell 5 (by omega)
  have q5 : (binOp .eql 30 (errI ea 20) (errI ea 5)).run Tryz.prog w = .ok (.bool false) w := errI_eq h 20 5 (by omega) (by omega)
  have c6 : w.cell? ⟨7, 0, none⟩ = some (errI ea 6) := h.cell 6 (by omega)
  have q6 : (binOp .eql 30 (errI ea 20) (errI ea 6)).run Tryz.prog w = .ok (.bool false) w := errI_eq h 20 6 (by omega) (by omega)
  have c7 : w.cell? ⟨8, 0, none⟩ = some (errI ea 7) := h.cell 7 (by omega)
  have q7 : (binOp .eql 30 (errI ea 20) (errI ea 7)).run Tryz.prog w = .ok (.bool false) w := errI_eq h 20 7 (by omega) (by omega)
  have c8 : w.cell? ⟨9, 0, none⟩ = some (errI ea 8) := h.cell 8 (by omega)
  have q8 : (binOp .eql 30 (errI ea 20) (errI ea 8)).run Tryz.prog w = .ok (.bool false) w := errI_eq h 20 8 (by omega) (by omega)
  have c9 : w.cell? ⟨10, 0, none⟩ = some (errI ea 9) := h.cell 9 (by omega)
  have q9 : (binOp .eql 30 (errI ea 20) (errI ea 9)).run Tryz.prog w = .ok (.bool false) w := errI_eq h 20 9 (by omega) (by omega)
  have c10 : w.cell? ⟨11, 0, none⟩ = some (errI ea 10) := h.cell 10 (by omega)
  have q10 : (binOp .eql 30 (errI ea 20) (errI ea 10)).run Tryz.prog w = .ok (.bool false) w := errI_eq h 20 10 (by omega) (by omega)
  have c11 : w.cell? ⟨12, 0, none⟩ = some (errI ea 11) := h.cell 11 (by omega)
  have q11 : (binOp .eql 30 (errI ea 20) (errI ea 11)).run Tryz.prog w = .ok (.bool false) w := errI_eq h 20 11 (by omega) (by omega)
  have c12 : w.cell? ⟨13, 0, none⟩ = some (errI ea 12) := h.cell 12 (by omega)
  have q12 : (binOp .eql 30 (errI ea 20) (errI ea 12)).run Tryz.prog w = .ok (.bool false) w := errI_eq h 20 12 (by omega) (by omega)
  have c13 : w.cell? ⟨14, 0, none⟩ = some (errI ea 13) := h.cell 13 (by omega)
  have q13 : (binOp .eql 30 (errI ea 20) (errI ea 13)).run Tryz.prog w = .ok (.bool false) w := errI_eq h 20 13 (by omega) (by omega)
  have c14 : w.cell? ⟨15, 0, none⟩ = some (errI ea 14) := h.cell 14 (by omega)
  have q14 : (binOp .eql 30 (errI ea 20) (errI ea 14)).run Tryz.prog w = .ok (.bool false) w := errI_eq h 20 14 (by omega) (by omega)
  have n0 := errI_nil ea 20 w
  have n1 := fun op x y => errI_guard0 ea 20 op x y w
  have n2 := fun j op x y => errI_guard ea 20 j op x y w
  have H := Lib.hid h; clear h
  go_enter Tryz.func9, Tryz.ntmps9
  go_wp2_with fail
  refine (more_20 ea w H.out).mono ?_
  rintro e w' ⟨rfl, rfl⟩
  go_wp2
  go_ret
  exact ⟨rfl, rfl⟩
theorem Num_21 (ea : List Addr) (w : World) (h : ErrEnv w ea) : Calls Tryz.prog 9 #[errI ea 21] w fun e w' => e = .returned (.int .i64 22) ∧ w = w' := by
  have c0 : w.cell? ⟨1, 0, none⟩ = some (errI ea 0) := h.cell 0 (by omega)
  have q0 : (binOp .eql 30 (errI ea 21) (errI ea 0)).run Tryz.prog w = .ok (.bool false) w := errI_eq h 21 0 (by omega) (by omega)
  have c1 : w.cell? ⟨2, 0, none⟩ = some (errI ea 1) := h.cell 1 (by omega)
  have q1 : (binOp .eql 30 (errI ea 21) (errI ea 1)).run Tryz.prog w = .ok (.bool false) w := errI_eq h 21 1 (by omega) (by omega)
  have c2 : w.cell? ⟨3, 0, none⟩ = some (errI ea 2) := h.cell 2 (by omega)
  have q2 : (binOp .eql 30 (errI ea 21) (errI ea 2)).run Tryz.prog w = .ok (.bool false) w := errI_eq h 21 2 (by omega) (by omega)
  have c3 : w.cell? ⟨4, 0, none⟩ = some (errI ea 3) := h.cell 3 (by omega)
  have q3 : (binOp .eql 30 (errI ea 21) (errI ea 3)).run Tryz.prog w = .ok (.bool false) w := errI_eq h 21 3 (by omega) (by omega)
  have c4 : w.cell? ⟨5, 0, none⟩ = some (errI ea 4) := h.cell 4 (by omega)
  have q4 : (binOp .eql 30 (errI ea 21) (errI ea 4)).run Tryz.prog w = .ok (.bool false) w := errI_eq h 21 4 (by omega) (by omega)
  have c5 : w.cell? ⟨6, 0, none⟩ = some (errI ea 5) := h.cell 5 (by omega)
  have q5 : (binOp .eql 30 (errI ea 21) (errI ea 5)).run Tryz.prog w = .ok (.bool false) w := errI_eq h 21 5 (by omega) (by omega)
  have c6 : w.cell? ⟨7, 0, none⟩ = some (errI ea 6) := h.cell 6 (by omega)
  have q6 : (binOp .eql 30 (errI ea 21) (errI ea 6)).run Tryz.prog w = .ok (.bool false) w := errI_eq h 21 6 (by omega) (by omega)
  have c7 : w.cell? ⟨8, 0, none⟩ = some (errI ea 7) := h.cell 7 (by omega)
  have q7 : (binOp .eql 30 (errI ea 21) (errI ea 7)).run Tryz.prog w = .ok (.bool false) w := errI_eq h 21 7 (by omega) (by omega)
  have c8 : w.cell? ⟨9, 0, none⟩ = some (errI ea 8) := h.cell 8 (by omega)
  have q8 : (binOp .eql 30 (errI ea 21) (errI ea 8)).run Tryz.prog w = .ok (.bool false) w := errI_eq h 21 8 (by omega) (by omega)
  have c9 : w.cell? ⟨10, 0, none⟩ = some (errI ea 9) := h.cell 9 (by omega)
  have q9 : (binOp .eql 30 (errI ea 21) (errI ea 9)).run Tryz.prog w = .ok (.bool false) w := errI_eq h 21 9 (by omega) (by omega)
  have c10 : w.cell? ⟨11, 0, none⟩ = some (errI ea 10) := h.cell 10 (by omega)
  have q10 : (binOp .eql 30 (errI ea 21) (errI ea 10)).run Tryz.prog w = .ok (.bool false) w := errI_eq h 21 10 (by omega) (by omega)
  have c11 : w.cell? ⟨12, 0, none⟩ = some (errI ea 11) := h.cell 11 (by omega)
  have q11 : (binOp .eql 30 (errI ea 21) (errI ea 11)).run Tryz.prog w = .ok (.bool false) w := errI_eq h 21 11 (by omega) (by omega)
  have c12 : w.cell? ⟨13, 0, none⟩ = some (errI ea 12) := h.cell 12 (by omega)
  have q12 : (binOp .eql 30 (errI ea 21) (errI ea 12)).run Tryz.prog w = .ok (.bool false) w := errI_eq h 21 12 (by omega) (by omega)
  have c13 : w.cell? ⟨14, 0, none⟩ = some (errI ea 13) := h.cell 13 (by omega)
  have q13 : (binOp .eql 30 (errI ea 21) (errI ea 13)).run Tryz.prog w = .ok (.bool false) w := errI_eq h 21 13 (by omega) (by omega)
  have c14 : w.cell? ⟨15, 0, none⟩ = some (errI ea 14) := h.cell 14 (by omega)
  have q14 : (binOp .eql 30 (errI ea 21) (errI ea 14)).run Tryz.prog w = .ok (.bool false) w := errI_eq h 21 14 (by omega) (by omega)
  have n0 := errI_nil ea 21 w
  have n1 := fun op x y => errI_guard0 ea 21 op x y w
  have n2 := fun j op x y => errI_guard ea 21 j op x y w
  have H := Lib.hid h; clear h
  go_enter Tryz.func9, Tryz.ntmps9
  go_wp2_with fail
  refine (more_21 ea w H.out).mono ?_
  rintro e w' ⟨rfl, rfl⟩
  go_wp2
  go_ret
  exact ⟨rfl, rfl⟩
theorem Num_22 (ea : List Addr) (w : World) (h : ErrEnv w ea) : Calls Tryz.prog 9 #[errI ea 22] w fun e w' => e = .returned (.int .i64 23) ∧ w = w' := by
  have c0 : w.cell? ⟨1, 0, none⟩ = some (errI ea 0) := h.cell 0 (by omega)
  have q0 : (binOp .eql 30 (errI ea 22) (errI ea 0)).run Tryz.prog w = .ok (.bool false) w := errI_eq h 22 0 (by omega) (by omega)
  have c1 : w.cell? ⟨2, 0, none⟩ = some (errI ea 1) := h.cell 1 (by omega)
  have q1 : (binOp .eql 30 (errI ea 22) (errI ea 1)).run Tryz.prog w = .ok (.bool false) w := errI_eq h 22 1 (by omega) (by omega)
  have c2 : w.cell? ⟨3, 0, none⟩ = some (errI ea 2) := h.cell 2 (by omega)
  have q2 : (binOp .eql 30 (errI ea 22) (errI ea 2)).run Tryz.prog w = .ok (.bool false) w := errI_eq h 22 2 (by omega) (by omega)
  have c3 : w.cell? ⟨4, 0, none⟩ = some (errI ea 3) := h.cell 3 (by omega)
  have q3 : (binOp .eql 30 (errI ea 22) (errI ea 3)).run Tryz.prog w = .ok (.bool false) w := errI_eq h 22 3 (by omega) (by omega)
  have c4 : w.cell? ⟨5, 0, none⟩ = some (errI ea 4) := h.cell 4 (by omega)
  have q4 : (binOp .eql 30 (errI ea 22) (errI ea 4)).run Tryz.prog w = .ok (.bool false) w := errI_eq h 22 4 (by omega) (by omega)
  have c5 : w.cell? ⟨6, 0, none⟩ = some (errI ea 5) := h.cell 5 (by omega)
  have q5 : (binOp .eql 30 (errI ea 22) (errI ea 5)).run Tryz.prog w = .ok (.bool false) w := errI_eq h 22 5 (by omega) (by omega)
  have c6 : w.cell? ⟨7, 0, none⟩ = some (errI ea 6) := h.cell 6 (by omega)
  have q6 : (binOp .eql 30 (errI ea 22) (errI ea 6)).run Tryz.prog w = .ok (.bool false) w := errI_eq h 22 6 (by omega) (by omega)
  have c7 : w.cell? ⟨8, 0, none⟩ = some (errI ea 7) := h.cell 7 (by omega)
  have q7 : (binOp .eql 30 (errI ea 22) (errI ea 7)).run Tryz.prog w = .ok (.bool false) w := errI_eq h 22 7 (by omega) (by omega)
  have c8 : w.cell? ⟨9, 0, none⟩ = some (errI ea 8) := h.cell 8 (by omega)
  have q8 : (binOp .eql 30 (errI ea 22) (errI ea 8)).run Tryz.prog w = .ok (.bool false) w := errI_eq h 22 8 (by omega) (by omega)
  have c9 : w.cell? ⟨10, 0, none⟩ = some (errI ea 9) := h.cell 9 (by omega)
  have q9 : (binOp .eql 30 (errI ea 22) (errI ea 9)).run Tryz.prog w = .ok (.bool false) w := errI_eq h 22 9 (by omega) (by omega)
  have c10 : w.cell? ⟨11, 0, none⟩ = some (errI ea 10) := h.cell 10 (by omega)
  have q10 : (binOp .eql 30 (errI ea 22) (errI ea 10)).run Tryz.prog w = .ok (.bool false) w := errI_eq h 22 10 (by omega) (by omega)
  have c11 : w.cell? ⟨12, 0, none⟩ = some (errI ea 11) := h.cell 11 (by omega)
  have q11 : (binOp .eql 30 (errI ea 22) (errI ea 11)).run Tryz.prog w = .ok (.bool false) w := errI_eq h 22 11 (by omega) (by omega)
  have c12 : w.cell? ⟨13, 0, none⟩ = some (errI ea 12) := h.cell 12 (by omega)
  have q12 : (binOp .eql 30 (errI ea 22) (errI ea 12)).run Tryz.prog w = .ok (.bool false) w := errI_eq h 22 12 (by omega) (by omega)
  have c13 : w.cell? ⟨14, 0, none⟩ = some (errI ea 13) := h.cell 13 (by omega)
  have q13 : (binOp .eql 30 (errI ea 22) (errI ea 13)).run Tryz.prog w = .ok (.bool false) w := errI_eq h 22 13 (by omega) (by omega)
  have c14 : w.cell? ⟨15, 0, none⟩ = some (errI ea 14) := h.cell 14 (by omega)
  have q14 : (binOp .eql 30 (errI ea 22) (errI ea 14)).run Tryz.prog w = .ok (.bool false) w := errI_eq h 22 14 (by omega) (by omega)
  have n0 := errI_nil ea 22 w
  have n1 := fun op x y => errI_guard0 ea 22 op x y w
  have n2 := fun j op x y => errI_guard ea 22 j op x y w
  have H := Lib.hid h; clear h
  go_enter Tryz.func9, Tryz.ntmps9
  go_wp2_with fail
  refine (more_22 ea w H.out).mono ?_
  rintro e w' ⟨rfl, rfl⟩
  go_wp2
  go_ret
  exact ⟨rfl, rfl⟩
theorem Num_23 (ea : List Addr) (w : World) (h : ErrEnv w ea) : Calls Tryz.prog 9 #[errI ea 23] w fun e w' => e = .returned (.int .i64 24) ∧ w = w' := by
  have c0 : w.cell? ⟨1, 0, none⟩ = some (errI ea 0) := h.cell 0 (by omega)
  have q0 : (binOp .eql 30 (errI ea 23) (errI ea 0)).run Tryz.prog w = .ok (.bool false) w := errI_eq h 23 0 (by omega) (by omega)
  have c1 : w.cell? ⟨2, 0, none⟩ = some (errI ea 1) := h.cell 1 (by omega)
  have q1 : (binOp .eql 30 (errI ea 23) (errI ea 1)).run Tryz.prog w = .ok (.bool false) w := errI_eq h 23 1 (by omega) (by omega)
  have c2 : w.cell? ⟨3, 0, none⟩ = some (errI ea 2) := h.cell 2 (by omega)
  have q2 : (binOp .eql 30 (errI ea 23) (errI ea 2)).run Tryz.prog w = .ok (.bool false) w := errI_eq h 23 2 (by omega) (by omega)
  have c3 : w.cell? ⟨4, 0, none⟩ = some (errI ea 3) := h.cell 3 (by omega)
  have q3 : (binOp .eql 30 (errI ea 23) (errI ea 3)).run Tryz.prog w = .ok (.bool false) w := errI_eq h 23 3 (by omega) (by omega)
  have c4 : w.cell? ⟨5, 0, none⟩ = some (errI ea 4) := h.cell 4 (by omega)
  have q4 : (binOp .eql 30 (errI ea 23) (errI ea 4)).run Tryz.prog w = .ok (.bool false) w := errI_eq h 23 4 (by omega) (by omega)
  have c5 : w.cell? ⟨6, 0, none⟩ = some (errI ea 5) := h.cell 5 (by omega)
  have q5 : (binOp .eql 30 (errI ea 23) (errI ea 5)).run Tryz.prog w = .ok (.bool false) w := errI_eq h 23 5 (by omega) (by omega)
  have c6 : w.cell? ⟨7, 0, none⟩ = some (errI ea 6) := h.cell 6 (by omega)
  have q6 : (binOp .eql 30 (errI ea 23) (errI ea 6)).run Tryz.prog w = .ok (.bool false) w := errI_eq h 23 6 (by omega) (by omega)
  have c7 : w.cell? ⟨8, 0, none⟩ = some (errI ea 7) := h.cell 7 (by omega)
  have q7 : (binOp .eql 30 (errI ea 23) (errI ea 7)).run Tryz.prog w = .ok (.bool false) w := errI_eq h 23 7 (by omega) (by omega)
  have c8 : w.cell? ⟨9, 0, none⟩ = some (errI ea 8) := h.cell 8 (by omega)
  have q8 : (binOp .eql 30 (errI ea 23) (errI ea 8)).run Tryz.prog w = .ok (.bool false) w := errI_eq h 23 8 (by omega) (by omega)
  have c9 : w.cell? ⟨10, 0, none⟩ = some (errI ea 9) := h.cell 9 (by omega)
  have q9 : (binOp .eql 30 (errI ea 23) (errI ea 9)).run Tryz.prog w = .ok (.bool false) w := errI_eq h 23 9 (by omega) (by omega)
  have c10 : w.cell? ⟨11, 0, none⟩ = some (errI ea 10) := h.cell 10 (by omega)
  have q10 : (binOp .eql 30 (errI ea 23) (errI ea 10)).run Tryz.prog w = .ok (.bool false) w := errI_eq h 23 10 (by omega) (by omega)
  have c11 : w.cell? ⟨12, 0, none⟩ = some (errI ea 11) := h.cell 11 (by omega)
  have q11 : (binOp .eql 30 (errI ea 23) (errI ea 11)).run Tryz.prog w = .ok (.bool false) w := errI_eq h 23 11 (by omega) (by omega)
  have c12 : w.cell? ⟨13, 0, none⟩ = some (errI ea 12) := h.cell 12 (by omega)
  have q12 : (binOp .eql 30 (errI ea 23) (errI ea 12)).run Tryz.prog w = .ok (.bool false) w := errI_eq h 23 12 (by omega) (by omega)
  have c13 : w.cell? ⟨14, 0, none⟩ = some (errI ea 13) := h.cell 13 (by omega)
  have q13 : (binOp .eql 30 (errI ea 23) (errI ea 13)).run Tryz.prog w = .ok (.bool false) w := errI_eq h 23 13 (by omega) (by omega)
  have c14 : w.cell? ⟨15, 0, none⟩ = some (errI ea 14) := h.cell 14 (by omega)
  have q14 : (binOp .eql 30 (errI ea 23) (errI ea 14)).run Tryz.prog w = .ok (.bool false) w := errI_eq h 23 14 (by omega) (by omega)
  have n0 := errI_nil ea 23 w
  have n1 := fun op x y => errI_guard0 ea 23 op x y w
  have n2 := fun j op x y => errI_guard ea 23 j op x y w
  have H := Lib.hid h; clear h
  go_enter Tryz.func9, Tryz.ntmps9
  go_wp2_with fail
  refine (more_23 ea w H.out).mono ?_
  rintro e w' ⟨rfl, rfl⟩
  go_wp2
  go_ret
  exact ⟨rfl, rfl⟩
theorem Num_any (ea : List Addr) (i : Nat) (hi : i < 24) (w : World) (h : ErrEnv w ea) : Calls Tryz.prog 9 #[errI ea i] w fun e w' => e = .returned (.int .i64 ((i : Int) + 1)) ∧ w = w' := by
  match i, hi with
  | 0, _ => exact Num_0 ea w h
  | 1, _ => exact Num_1 ea w h
  | 2, _ => exact Num_2 ea w h
  | 3, _ => exact Num_3 ea w h
  | 4, _ => exact Num_4 ea w h
  | 5, _ => exact Num_5 ea w h
  | 6, _ => exact Num_6 ea w h
  | 7, _ => exact Num_7 ea w h
  | 8, _ => exact Num_8 ea w h
  | 9, _ => exact Num_9 ea w h
  | 10, _ => exact Num_10 ea w h
  | 11, _ => exact Num_11 ea w h
  | 12, _ => exact Num_12 ea w h
  | 13, _ => exact Num_13 ea w h
  | 14, _ => exact Num_14 ea w h
  | 15, _ => exact Num_15 ea w h
  | 16, _ => exact Num_16 ea w h
  | 17, _ => exact Num_17 ea w h
  | 18, _ => exact Num_18 ea w h
  | 19, _ => exact Num_19 ea w h
  | 20, _ => exact Num_20 ea w h
  | 21, _ => exact Num_21 ea w h
  | 22, _ => exact Num_22 ea w h
  | 23, _ => exact Num_23 ea w h
  | n + 24, hn => exact absurd hn (by omega)
end Go.Proofs.YtmdpfikalekmlaaGreatDoor
