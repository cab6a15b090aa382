/- Merged for a claim by shake.py: Ph Errs Ht -/
import Derived.Test.YthcldpminmhgkaaDoorKxA
import Derived.Deep.RegionHeldLaw
import Derived.KernelRfl
import Derived.LaidEql
import Derived.LaidLaws
import Derived.LaidSub
import Derived.Laws.Entries
import Derived.Test.YthcldpminmhgkaaDoorKx1
import Derived.Test.YthcldpminmhgkaaDoorProg
import Derived.Test.YthcldpminmhgkaaDoorRows
set_option linter.unusedVariables false
set_option maxRecDepth 100000
set_option maxHeartbeats 1000000
set_option linter.unusedSimpArgs false
section
namespace Go.Proofs.YthcldpminmhgkaaDoor
open Go.RowKit
section
variable {P : Program} {md : Region.Mode} {ops : Array Oper} {Q : Exit → Act → World → Prop} {S : World → Prop} {k : Nat}
def phAny (P : Program) (md : Region.Mode) (ops : Array Oper) (Q : Exit → Act → World → Prop) (S : World → Prop) (k : Nat) : Nat → Array Bool → Act → World → Prop
 | 0, l, a, w => Region.ready md ops l = [] ∧ Q .normal a w
 | n + 1, l, a, w => (Region.ready md ops l = [] → Q .normal a w) ∧
   ∀ i, i ∈ Region.ready md ops l → wpOp P ops Q i (fun b v => ((l.setIfInBounds i true).getD k true = false → S v) ∧ phAny P md ops Q S k n (l.setIfInBounds i true) b v) a w
theorem phAny.any {n : Nat} {l : Array Bool} {a : Act} {w : World} (h : phAny P md ops Q S k n l a w) : wpAny P md ops Q n l a w := by
 induction n generalizing l a w with
 | zero => exact h
 | succ n ih => exact ⟨h.1, fun i hi => wpOp_mono (fun _ _ x => ih x.2) (h.2 i hi)⟩
def waitsB (md : Region.Mode) (ops : Array Oper) (k i : Nat) : Bool := match ops[k]? with
 | some o => o.after.any fun e => Region.binds md e && (e.on == i)
 | none => false
def pathTo (md : Region.Mode) (ops : Array Oper) : Nat → List Nat → Nat → Bool
 | k, [], i => waitsB md ops k i
 | k, m :: p, i => waitsB md ops k m && pathTo md ops m p i
def clos (md : Region.Mode) (ops : Array Oper) (l : Array Bool) : Prop :=
 ∀ j o, ops[j]? = some o → l.getD j false = true → ∀ e ∈ o.after, Region.binds md e = true → l.getD e.on false = true
def closB (md : Region.Mode) (ops : Array Oper) (l : Array Bool) : Bool :=
 (List.range ops.size).all fun j => match ops[j]? with
  | some o => !(l.getD j false) || o.after.all fun e => !(Region.binds md e) || l.getD e.on false
  | none => true
theorem closB_spec {l : Array Bool} (h : closB md ops l = true) : clos md ops l := by
 intro j o ho hj e he hb
 have hlt : j < ops.size := (Array.getElem?_eq_some_iff.1 ho).1
 have h1 := List.all_eq_true.1 h j (List.mem_range.2 hlt)
 rw [ho] at h1
 simp only [hj, Bool.not_true, Bool.false_or] at h1
 have h2 := Array.all_eq_true_iff_forall_mem.1 h1 e he
 simpa [hb] using h2
theorem clos_set {l : Array Bool} {j : Nat} (h : clos md ops l) (hj : j ∈ Region.ready md ops l) : clos md ops (l.setIfInBounds j true) := by
 intro x o ho hx e he hb
 refine getD_set_true ?_
 by_cases e2 : j = x
 ·subst e2
  obtain ⟨o2, ho2, hall⟩ := (mem_ready.1 hj).2
  rw [ho] at ho2; cases ho2
  exact hall e he hb
 ·rw [getD_set_ne false e2] at hx
  exact h x o ho hx e he hb
theorem waits_edge {i : Nat} (h : waitsB md ops k i = true) : ∃ o, ops[k]? = some o ∧ ∃ e ∈ o.after, Region.binds md e = true ∧ e.on = i := by
 unfold waitsB at h
 cases ho : ops[k]? with
 | none => rw [ho] at h; cases h
 | some o =>
  rw [ho] at h
  obtain ⟨e, he, h2⟩ := Array.any_eq_true'.1 h
  rw [Bool.and_eq_true, beq_iff_eq] at h2
  exact ⟨o, rfl, e, he, h2.1, h2.2⟩
theorem path_un {l : Array Bool} (hc : clos md ops l) {i : Nat} (hi : ¬ l.getD i false = true) : ∀ (p : List Nat) (k : Nat), pathTo md ops k p i = true → ¬ l.getD k false = true := by
 intro p
 induction p with
 | nil =>
  intro k h hk
  obtain ⟨o, ho, e, he, hb, hon⟩ := waits_edge h
  exact hi (hon ▸ hc k o ho hk e he hb)
 | cons m p ih =>
  intro k h hk
  unfold pathTo at h
  rw [Bool.and_eq_true] at h
  obtain ⟨o, ho, e, he, hb, hon⟩ := waits_edge h.1
  exact ih m h.2 (hon ▸ hc k o ho hk e he hb)
theorem path_not {l : Array Bool} (hc : clos md ops l) {i : Nat} (hi : ¬ l.getD i false = true) {p : List Nat} (h : pathTo md ops k p i = true) : ¬ k ∈ Region.ready md ops l := by
 intro hk
 obtain ⟨-, o, ho, hall⟩ := mem_ready.1 hk
 cases p with
 | nil =>
  obtain ⟨o2, ho2, e, he, hb, hon⟩ := waits_edge h
  rw [ho] at ho2; cases ho2
  exact hi (hon ▸ hall e he hb)
 | cons m p =>
  unfold pathTo at h
  rw [Bool.and_eq_true] at h
  obtain ⟨o2, ho2, e, he, hb, hon⟩ := waits_edge h.1
  rw [ho] at ho2; cases ho2
  exact path_un hc hi p m h.2 (hon ▸ hall e he hb)
theorem un_of {l : Array Bool} {i : Nat} (h : i ∈ Region.ready md ops l) : ¬ l.getD i false = true := by
 have h0 := (mem_ready.1 h).1
 intro h1
 by_cases hlt : i < l.size
 ·simp [hlt] at h0 h1; rw [h0] at h1; cases h1
 ·simp [Array.getElem?_eq_none (Nat.le_of_not_lt hlt)] at h1
theorem phAny_first {i : Nat} {oi : Oper} {v : Value} (hi : ops[i]? = some oi) (hn : Region.noSelect ops = true) {p : List Nat} (hk : pathTo md ops k p i = true) (hQ : ∀ c a w, Q (.panic c) (a.put oi.dst v) w → Q (.panic c) a w) (n : Nat) :
  ∀ (l : Array Bool) (a : Act) (w : World), clos md ops l →
   (∀ j oj, ops[j]? = some oj → j ≠ i → l.getD j true = false → (∀ e ∈ oj.after, Region.binds md e = true → e.on ≠ i) → oi.apart ops oj = true) →
   i ∈ Region.ready md ops l → l.getD k true = false → YieldsIf P ops S oi v a → S w →
   phAny P md ops Q S k n (l.setIfInBounds i true) (a.put oi.dst v) w → phAny P md ops Q S k (n + 1) l a w := by
 have sel := Region.noSelect_spec hn
 induction n with
 | zero =>
  intro l a w hz _ hr hl hy hS H
  constructor
  ·intro e; rw [e] at hr; exact absurd hr List.not_mem_nil
  ·intro j hj
   by_cases e : j = i
   ·rw [e]; exact hy.wpOp hi hS ⟨fun _ => hS, H⟩
   ·have h1 := ready_mono (i := i) hj e
    rw [H.1] at h1; exact absurd h1 List.not_mem_nil
 | succ n ih =>
  intro l a w hz hf hr hl hy hS H
  constructor
  ·intro e; rw [e] at hr; exact absurd hr List.not_mem_nil
  ·intro j hj
   by_cases e : j = i
   ·rw [e]; exact hy.wpOp hi hS ⟨fun _ => hS, H⟩
   ·have hun := (mem_ready.1 hj).1
    obtain ⟨oj, hoj, hall⟩ := (mem_ready.1 hj).2
    have hno : ∀ x ∈ oj.after, Region.binds md x = true → x.on ≠ i := by
     intro x hx hb he
     have h1 := hall x hx hb
     have h0 := (mem_ready.1 hr).1
     rw [he] at h1
     by_cases hlt : i < l.size
     ·simp [hlt] at h0 h1; rw [h0] at h1; cases h1
     ·simp [Array.getElem?_eq_none (Nat.le_of_not_lt hlt)] at h1
    have hjk : j ≠ k := fun e2 => path_not hz (un_of hr) hk (e2 ▸ hj)
    have hko : (l.setIfInBounds j true).getD k true = false := by rw [getD_set_ne true hjk]; exact hl
    have step := wpOp_putIf (S := S) hoj (hf j oj hoj e hun hno) (fun cs b => sel i oi cs b hi) (fun cs b => sel j oj cs b hoj) hQ hy (H.2 j (ready_mono hj e))
    refine wpOp_mono (fun b u h3 => ?_) step
    obtain ⟨hy', hS', H'⟩ := h3
    have hki : ((l.setIfInBounds i true).setIfInBounds j true).getD k true = false := by
     rw [Array.setIfInBounds_comm _ _ (Ne.symm e)]
     have hik : i ≠ k := fun e2 => path_not hz (un_of hr) hk (e2 ▸ hr)
     rw [getD_set_ne true hik]; exact hko
    refine ⟨fun _ => hS' hki, ih (l.setIfInBounds j true) b u (clos_set hz hj) ?_ (ready_mono hr (Ne.symm e)) hko hy' (hS' hki) ?_⟩
    ·intro x ox hx hxi hxu hxn
     refine hf x ox hx hxi ?_ hxn
     by_cases hjx : j = x
     ·rw [← hjx]; exact hun
     ·rw [getD_set_ne true hjx] at hxu; exact hxu
    ·rw [Array.setIfInBounds_comm _ _ e]; exact H'
theorem phAny_take {i : Nat} {oi : Oper} {v : Value} {n : Nat} {l : Array Bool} {a : Act} {w : World} (p : List Nat) (hi : ops[i]? = some oi) (hc : (Region.noSelect ops && pathTo md ops k p i && Region.free md ops l i && (Region.ready md ops l).contains i && closB md ops l && (l.getD k true == false)) = true)
  (hQ : ∀ c a w, Q (.panic c) (a.put oi.dst v) w → Q (.panic c) a w) (hy : YieldsIf P ops S oi v a) (hS : S w)
  (h : phAny P md ops Q S k n (l.setIfInBounds i true) (a.put oi.dst v) w) : phAny P md ops Q S k (n + 1) l a w := by
 simp only [Bool.and_eq_true, beq_iff_eq] at hc
 obtain ⟨⟨⟨⟨⟨h1, h2⟩, h3⟩, h4⟩, h5⟩, h6⟩ := hc
 exact phAny_first hi h1 h2 hQ n l a w (closB_spec h5) (Region.free_spec hi h3) (by simpa using h4) h6 hy hS h
theorem phAny_pure1 {i : Nat} {oi : Oper} {v : Value} (hi : ops[i]? = some oi) (hn : Region.noSelect ops = true) (hik : i ≠ k) (hQ : ∀ c a w, Q (.panic c) (a.put oi.dst v) w → Q (.panic c) a w) (n : Nat) :
  ∀ (l : Array Bool) (a : Act) (w : World),
   (∀ j oj, ops[j]? = some oj → j ≠ i → l.getD j true = false → (∀ e ∈ oj.after, Region.binds md e = true → e.on ≠ i) → oi.apart ops oj = true) →
   i ∈ Region.ready md ops l → (l.getD k true = false → S w) → YieldsIf P ops (fun _ => True) oi v a →
   phAny P md ops Q S k n (l.setIfInBounds i true) (a.put oi.dst v) w → phAny P md ops Q S k (n + 1) l a w := by
 have sel := Region.noSelect_spec hn
 induction n with
 | zero =>
  intro l a w _ hr hS hy H
  constructor
  ·intro e; rw [e] at hr; exact absurd hr List.not_mem_nil
  ·intro j hj
   by_cases e : j = i
   ·rw [e]; exact hy.wpOp hi trivial ⟨fun h => hS (by rw [getD_set_ne true hik] at h; exact h), H⟩
   ·have h1 := ready_mono (i := i) hj e
    rw [H.1] at h1; exact absurd h1 List.not_mem_nil
 | succ n ih =>
  intro l a w hf hr hS hy H
  constructor
  ·intro e; rw [e] at hr; exact absurd hr List.not_mem_nil
  ·intro j hj
   by_cases e : j = i
   ·rw [e]; exact hy.wpOp hi trivial ⟨fun h => hS (by rw [getD_set_ne true hik] at h; exact h), H⟩
   ·have hun := (mem_ready.1 hj).1
    obtain ⟨oj, hoj, hall⟩ := (mem_ready.1 hj).2
    have hno : ∀ x ∈ oj.after, Region.binds md x = true → x.on ≠ i := fun x hx hb he => un_of hr (he ▸ hall x hx hb)
    have step := wpOp_putIf (S := fun _ => True) hoj (hf j oj hoj e hun hno) (fun cs b => sel i oi cs b hi) (fun cs b => sel j oj cs b hoj) hQ hy (H.2 j (ready_mono hj e))
    refine wpOp_mono (fun b u h3 => ?_) step
    obtain ⟨hy', hS', H'⟩ := h3
    have hsw : (l.setIfInBounds j true).getD k true = false → S u := fun h => hS' (by rw [Array.setIfInBounds_comm _ _ (Ne.symm e), getD_set_ne true hik]; exact h)
    refine ⟨hsw, ih (l.setIfInBounds j true) b u ?_ (ready_mono hr (Ne.symm e)) hsw hy' ?_⟩
    ·intro x ox hx hxi hxu hxn
     refine hf x ox hx hxi ?_ hxn
     by_cases hjx : j = x
     ·rw [← hjx]; exact hun
     ·rw [getD_set_ne true hjx] at hxu; exact hxu
    ·rw [Array.setIfInBounds_comm _ _ e]; exact H'
theorem phAny_pure {i : Nat} {oi : Oper} {v : Value} {n : Nat} {l : Array Bool} {a : Act} {w : World} (hi : ops[i]? = some oi) (hc : (Region.noSelect ops && Region.free md ops l i && (Region.ready md ops l).contains i && !(i == k)) = true)
  (hQ : ∀ c a w, Q (.panic c) (a.put oi.dst v) w → Q (.panic c) a w) (hy : YieldsIf P ops (fun _ => True) oi v a) (hS : l.getD k true = false → S w)
  (h : phAny P md ops Q S k n (l.setIfInBounds i true) (a.put oi.dst v) w) : phAny P md ops Q S k (n + 1) l a w := by
 simp only [Bool.and_eq_true, Bool.not_eq_true', beq_eq_false_iff_ne] at hc
 obtain ⟨⟨⟨h1, h3⟩, h4⟩, h6⟩ := hc
 exact phAny_pure1 hi h1 h6 hQ n l a w (Region.free_spec hi h3) (by simpa using h4) hS hy h
def phAll (P : Program) (md : Region.Mode) (ops : Array Oper) (Q : Exit → Act → World → Prop) (S : World → Prop) (k n : Nat) (l : Array Bool) (a : Act) (w : World) (rs : List Nat) : Prop :=
 ∀ i, i ∈ rs → wpOp P ops Q i (fun b v => ((l.setIfInBounds i true).getD k true = false → S v) ∧ phAny P md ops Q S k n (l.setIfInBounds i true) b v) a w
theorem phAll.nil {n : Nat} {l : Array Bool} {a : Act} {w : World} : phAll P md ops Q S k n l a w [] := fun _ h => absurd h List.not_mem_nil
theorem phAll.cons {n : Nat} {l : Array Bool} {a : Act} {w : World} {i : Nat} {o : Oper} {rs : List Nat} (ho : ops[i]? = some o)
  (h : ∀ K : Act → World → Prop, Shut (∀ b v, ((l.setIfInBounds i true).getD k true = false → S v) → phAny P md ops Q S k n (l.setIfInBounds i true) b v → K b v) → if Region.wanted o (yielded ops a.tmps) = true then Oper.wp P o a w K Q else K (a.put o.dst undef) w)
  (hs : phAll P md ops Q S k n l a w rs) : phAll P md ops Q S k n l a w (i :: rs) := by
 intro j hj
 rcases List.mem_cons.1 hj with e | hj
 ·rw [e]; exact wpOp_step ho fun K hK => h K fun b v h1 h2 => hK b v ⟨h1, h2⟩
 ·exact hs j hj
theorem phAny_ready {rs : List Nat} {n : Nat} {l : Array Bool} {a : Act} {w : World} (hr : Region.ready md ops l = rs) (hne : rs ≠ []) (h : phAll P md ops Q S k n l a w rs) : phAny P md ops Q S k (n + 1) l a w :=
 ⟨fun e => absurd (hr.symm.trans e) hne, fun i hi => h i (hr ▸ hi)⟩
theorem phAny_done {l : Array Bool} {a : Act} {w : World} (hr : Region.ready md ops l = []) (h : Q .normal a w) (n : Nat) : phAny P md ops Q S k n l a w := by
 cases n with
 | zero => exact ⟨hr, h⟩
 | succ n => exact ⟨fun _ => h, fun i hi => by rw [hr] at hi; exact absurd hi List.not_mem_nil⟩
theorem ph_region {id : Nat} {a : Act} {w : World} (S : World → Prop) (k : Nat) (hm : P.follows .mixedOrders = true)
  (h : phAny P .any ops Q S k ops.size (Array.replicate ops.size false) a w.drew) : (Code.region id ops true).wp P Q a w :=
 wp_region_any hm h.any
end
theorem ecellsErr : Tryd.prog.cellsOf 160 = 1 := by kernel_rfl
theorem ecellsStr : Tryd.prog.cellsOf 9 = 1 := by kernel_rfl
theorem estarErr : "*" ++ "errors.errorString" = "*errors.errorString" := by decide
theorem erowErr (u : TypeId) (h : Tryd.prog.typeName? 3 u = some "*errors.errorString") : u = 144 :=
 typeName_ptr_named (nm := "errors.errorString") (by rw [estarErr]; kernel_rfl) (by kernel_rfl) (by decide) u (by rw [estarErr]; exact h)
def errV (a : Addr) : Value := .iface 144 (.pointer (some a))
def ErrsAt (w : World) : List Nat → List Addr → Prop
 | [], [] => True
 | g :: gs, a :: ea => w.cell? ⟨g, 0, none⟩ = some (errV a) ∧ (∃ c t, w.heap[a.block]? = some (.cells c t (0, 0))) ∧ ErrsAt w gs ea
 | _, _ => False
def errRow {H : Type} (l : List UInt8) : DataW H := .iface "*errors.errorString" (.ptr (.agg [.lit (.string l)]))
theorem errsAt_of {W : World} : ∀ (rows : List (String × List UInt8)) (gs : List Nat) (ps : List MemPlace), rows.map (fun x => Tryd.prog.globalNamed x.1) = gs.map some → (∀ g ∈ gs, (Tryd.prog.globals[g]?).map (·.type) = some 35) →
  DataW.LaidVars Tryd.prog W (rows.map fun x => (x.1, errRow x.2)) ps → ps.Nodup → (∀ b off, MemPlace.cell b off ∈ ps → (∃ c t, W.heap[b]? = some (.cells c t (0, 0))) ∧ ∀ u v, W.cell? ⟨b, off, none⟩ = some (.iface u v) → Value.okWide Tryd.prog W .any 0 u v) →
  ∃ ea : List Addr, ErrsAt W gs ea ∧ ea.Nodup ∧ ea.length = gs.length ∧ ∀ a ∈ ea, MemPlace.cell a.block a.off ∈ ps
 | [], [], ps, _, _, _, _, _ => ⟨[], trivial, List.nodup_nil, rfl, fun _ h => by cases h⟩
 | [], g :: gs, ps, h, _, _, _, _ => by cases h
 | x :: rows, [], ps, h, _, _, _, _ => by cases h
 | x :: rows, g :: gs, ps, hg, ht, hl, hnd, hrows => by
  simp only [List.map_cons, List.cons.injEq] at hg
  obtain ⟨hg0, hgs⟩ := hg
  obtain ⟨g0, t0, cs0, f0, p0, q0, hg0', ht0, hv0, hd0, hrest, e0⟩ := hl
  obtain rfl : g = g0 := Option.some.inj (hg0.symm.trans hg0')
  obtain rfl := Option.some.inj ((ht g List.mem_cons_self).symm.trans ht0)
  subst e0
  obtain ⟨l0⟩ := cs0
  have ok0 : ∀ u v, l0 = [.iface u v] → Value.okWide Tryd.prog W .any 0 u v := fun u v e => by
   subst e
   exact (hrows g 0 (by simp [MemPlace.row])).2 u v (by simpa using World.var?_cell hg0' hv0 0)
  obtain ⟨a0, s0, rfl, hc0, hs0, hz0, rfl⟩ := errorString_of_trod Tryd.underlying35 erowErr Tryd.underlying144 Tryd.underlying160 rfl rfl Tryd.underlying9 ecellsErr ecellsStr hd0 ok0
  have hblk := (hrows a0.block a0.off (by simp [MemPlace.row])).1
  have hc : W.cell? ⟨g, 0, none⟩ = some (errV a0) := by simpa [errV] using World.var?_cell hg0' hv0 0
  have hq : ∀ x ∈ q0, x ∈ MemPlace.row ⟨g, 0, none⟩ (Array.mk [Value.iface 144 (.pointer (some a0))]).size ++ MemPlace.row a0 1 ++ q0 := fun x hx => by simp [hx]
  obtain ⟨ea, h1, h2, h3, h4⟩ := errsAt_of rows gs q0 hgs (fun g' h => ht g' (List.mem_cons_of_mem _ h)) hrest (List.nodup_append.1 hnd).2.1 (fun b off hp => hrows b off (hq _ hp))
  refine ⟨a0 :: ea, ⟨hc, hblk, h1⟩, List.nodup_cons.2 ⟨fun hm => ?_, h2⟩, by rw [List.length_cons, List.length_cons, h3], fun a ha => ?_⟩
  ·have := (List.nodup_append.1 hnd).2.2 (MemPlace.cell a0.block a0.off) (by simp [MemPlace.row]) _ (h4 a0 hm)
   exact this rfl
  ·rw [List.mem_cons] at ha
   rcases ha with rfl | ha
   ·simp [MemPlace.row]
   ·exact hq _ (h4 a ha)
def errGs : List Nat := [2, 3, 4, 5, 6, 7, 8, 9, 10, 11, 12, 13, 14, 15, 16, 1, 18, 0, 19, 20, 21, 22, 23, 24]
structure ErrEnv (w : World) (ea : List Addr) : Prop where
 at_ : ErrsAt w errGs ea
 nodup : ea.Nodup
 len : ea.length = 24
theorem ErrsAt.get {w : World} : ∀ {gs : List Nat} {ea : List Addr}, ErrsAt w gs ea → ∀ (i : Nat) (h : i < ea.length), w.cell? ⟨gs.getD i 0, 0, none⟩ = some (errV ea[i]) ∧ ∃ c t, w.heap[ea[i].block]? = some (.cells c t (0, 0))
 | [], [], _, i, hi => by cases hi
 | [], a :: ea, h, i, hi => h.elim
 | g :: gs, [], h, i, hi => h.elim
 | g :: gs, a :: ea, h, 0, _ => ⟨h.1, h.2.1⟩
 | g :: gs, a :: ea, h, i + 1, hi => by
  have := ErrsAt.get h.2.2 i (by simpa using hi)
  simpa [List.getD] using this
theorem ErrsAt.below {w w' : World} (hb : Below w.heap.size w w') : ∀ {gs : List Nat} {ea : List Addr}, ErrsAt w gs ea → ErrsAt w' gs ea
 | [], [], _ => trivial
 | [], a :: ea, h => h.elim
 | g :: gs, [], h => h.elim
 | g :: gs, a :: ea, h => by
  obtain ⟨c, t, hh⟩ := h.2.1
  refine ⟨(hb.cell (p := ⟨g, 0, none⟩) (World.block_lt_of_cell? w ⟨g, 0, none⟩ h.1)).trans h.1, ⟨c, t, ?_⟩, ErrsAt.below hb h.2.2⟩
  have hlt : a.block < w.heap.size := by
   rcases Nat.lt_or_ge a.block w.heap.size with h | h
   ·exact h
   ·rw [Array.getElem?_eq_none h] at hh; cases hh
  rw [hb.block _ hlt]; exact hh
theorem ErrEnv.below {w w' : World} {ea : List Addr} (h : ErrEnv w ea) (hb : Below w.heap.size w w') : ErrEnv w' ea := ⟨h.at_.below hb, h.nodup, h.len⟩
def errI (ea : List Addr) (i : Nat) : Value := errV (ea.getD i ⟨0, 0, none⟩)
theorem ErrEnv.cell {w : World} {ea : List Addr} (h : ErrEnv w ea) (i : Nat) (hi : i < 24) : w.cell? ⟨errGs.getD i 0, 0, none⟩ = some (errI ea i) := by
 have := (h.at_.get i (by rw [h.len]; exact hi)).1
 rw [this]; unfold errI
 rw [List.getD_eq_getElem?_getD, List.getElem?_eq_getElem (by rw [h.len]; exact hi)]; rfl
theorem einfoP : (Tryd.prog.info? 144).map (·.comparable) = some true := by kernel_rfl
theorem einfoS : (Tryd.prog.info? 160).map (fun i => decide (i.size ≠ 0)) = some true := by kernel_rfl
theorem errI_eq {w : World} {ea : List Addr} (h : ErrEnv w ea) (i j : Nat) (hi : i < 24) (hj : j < 24) : (binOp .eql 35 (errI ea i) (errI ea j)).run Tryd.prog w = .ok (.bool (decide (i = j))) w := by
 obtain ⟨p, hp, hc⟩ := Option.map_eq_some_iff.1 einfoP
 obtain ⟨q, hq, hz⟩ := Option.map_eq_some_iff.1 einfoS
 by_cases hij : i = j
 ·subst hij
  rw [decide_eq_true rfl]
  exact run_eql_iface_ptr_same w _ Tryd.underlying35 Tryd.underlying144 hp hc hq
 ·rw [decide_eq_false hij]
  have hi' : i < ea.length := by rw [h.len]; exact hi
  have hj' : j < ea.length := by rw [h.len]; exact hj
  obtain ⟨_, ca, ta, ha⟩ := h.at_.get i hi'
  obtain ⟨_, cb, tb, hb⟩ := h.at_.get j hj'
  have hne : ea[i] ≠ ea[j] := fun e => hij ((List.getElem_inj h.nodup).1 e)
  have e1 : errI ea i = errV ea[i] := by unfold errI; rw [List.getD_eq_getElem?_getD, List.getElem?_eq_getElem hi']; rfl
  have e2 : errI ea j = errV ea[j] := by unfold errI; rw [List.getD_eq_getElem?_getD, List.getElem?_eq_getElem hj']; rfl
  rw [e1, e2]
  exact run_eql_iface_ptr_other w Tryd.underlying35 Tryd.underlying144 hp hc hq (of_decide_eq_true hz) hne ha hb
theorem errI_nil (ea : List Addr) (i : Nat) (W : World) : (binOp .eql 35 (errI ea i) .nilIface).run Tryd.prog W = .ok (.bool false) W := by
 have h : ∀ d : Nat, (Op.equalIn (d + 1) 35 (errI ea i) .nilIface).run Tryd.prog W = .ok false W := fun d => by simp [errI, errV, Op.equalIn, run_underlying Tryd.underlying35]
 simp only [binOp]
 simp [Op.equal, Op.maxDepth, h 9999]
theorem errI_nnil (ea : List Addr) (i : Nat) (W : World) : (binOp .neq 35 (errI ea i) .nilIface).run Tryd.prog W = .ok (.bool true) W := by
 have h : ∀ d : Nat, (Op.equalIn (d + 1) 35 (errI ea i) .nilIface).run Tryd.prog W = .ok false W := fun d => by simp [errI, errV, Op.equalIn, run_underlying Tryd.underlying35]
 simp only [binOp]
 simp [Op.equal, Op.maxDepth, h 9999]
theorem errI_guard (ea : List Addr) (i j : Nat) (op : BinOp) (x y : Operand) (W : World) : (eqGuard op 35 x y (errI ea i) (errI ea j)).run Tryd.prog W = .ok () W := by
 cases op <;> simp [errI, errV, eqGuard, go_sem, Op.eqGuardIn, Op.maxDepth, run_underlying Tryd.underlying35]
theorem errI_guard0 (ea : List Addr) (i : Nat) (op : BinOp) (x y : Operand) (W : World) : (eqGuard op 35 x y (errI ea i) .nilIface).run Tryd.prog W = .ok () W := by
 cases op <;> simp [errI, errV, eqGuard, go_sem, Op.eqGuardIn, Op.maxDepth, run_underlying Tryd.underlying35]
def errRows : List (String × List UInt8) := [("concord/api.ErrShort", [99, 111, 110, 99, 111, 114, 100, 58, 32, 116, 111, 111, 32, 115, 104, 111, 114, 116]), ("concord/api.ErrVarint", [99, 111, 110, 99, 111, 114, 100, 58, 32, 118, 97, 114, 105, 110, 116]), ("concord/api.ErrLimit", [99, 111, 110, 99, 111, 114, 100, 58, 32, 108, 105, 109, 105, 116]), ("concord/api.ErrOrder", [99, 111, 110, 99, 111, 114, 100, 58, 32, 111, 114, 100, 101, 114]), ("concord/api.ErrTail", [99, 111, 110, 99, 111, 114, 100, 58, 32, 116, 97, 105, 108]), ("concord/api.ErrTag", [99, 111, 110, 99, 111, 114, 100, 58, 32, 116, 97, 103]), ("concord/api.ErrSum", [99, 111, 110, 99, 111, 114, 100, 58, 32, 115, 117, 109]), ("concord/api.ErrRange", [99, 111, 110, 99, 111, 114, 100, 58, 32, 114, 97, 110, 103, 101]), ("concord/api.ErrSize", [99, 111, 110, 99, 111, 114, 100, 58, 32, 115, 105, 122, 101]), ("concord/api.ErrCorrupt", [99, 111, 110, 99, 111, 114, 100, 58, 32, 99, 111, 114, 114, 117, 112, 116]), ("concord/api.ErrSchema", [99, 111, 110, 99, 111, 114, 100, 58, 32, 115, 99, 104, 101, 109, 97]), ("concord/api.ErrField", [99, 111, 110, 99, 111, 114, 100, 58, 32, 102, 105, 101, 108, 100]), ("concord/api.ErrValue", [99, 111, 110, 99, 111, 114, 100, 58, 32, 118, 97, 108, 117, 101]), ("concord/api.ErrPattern", [99, 111, 110, 99, 111, 114, 100, 58, 32, 112, 97, 116, 116, 101, 114, 110]), ("concord/api.ErrStates", [99, 111, 110, 99, 111, 114, 100, 58, 32, 115, 116, 97, 116, 101, 115]), ("concord/api.ErrSyntax", [99, 111, 110, 99, 111, 114, 100, 58, 32, 115, 121, 110, 116, 97, 120]), ("concord/api.ErrDeep", [99, 111, 110, 99, 111, 114, 100, 58, 32, 116, 111, 111, 32, 100, 101, 101, 112]), ("concord/api.ErrNode", [99, 111, 110, 99, 111, 114, 100, 58, 32, 110, 111, 100, 101]), ("concord/api.ErrTerms", [99, 111, 110, 99, 111, 114, 100, 58, 32, 116, 111, 111, 32, 109, 97, 110, 121, 32, 116, 101, 114, 109, 115]), ("concord/api.ErrScore", [99, 111, 110, 99, 111, 114, 100, 58, 32, 115, 99, 111, 114, 101, 32, 111, 118, 101, 114, 102, 108, 111, 119]), ("concord/api.ErrCode", [99, 111, 110, 99, 111, 114, 100, 58, 32, 99, 111, 100, 101]), ("concord/api.ErrFuel", [99, 111, 110, 99, 111, 114, 100, 58, 32, 102, 117, 101, 108]), ("concord/api.ErrDoc", [99, 111, 110, 99, 111, 114, 100, 58, 32, 100, 111, 99, 117, 109, 101, 110, 116]), ("concord/api.ErrCommand", [99, 111, 110, 99, 111, 114, 100, 58, 32, 99, 111, 109, 109, 97, 110, 100])]
theorem errEnv_of_rows {W : World} (h : laidMet Tryd.prog (errRows.map fun x => (x.1, errRow x.2)) W) : ∃ ea, ErrEnv W ea := by
 obtain ⟨ps, h1, h2, h3⟩ := h
 obtain ⟨ea, g1, g2, g3, _⟩ := errsAt_of errRows errGs ps (by kernel_rfl) (by
  have h : errGs.all (fun g => (Tryd.prog.globals[g]?).map (·.type) == some 35) = true := by kernel_rfl
  intro g hg
  exact beq_iff_eq.1 (List.all_eq_true.1 h g hg)) h1 h2 h3
 exact ⟨ea, g1, g2, g3⟩
theorem errEnv_of {W : World} {l : List (String × DataW Unit)} (h : laidMet Tryd.prog l W) (e : l.filter (fun x => (errRows.map (·.1)).contains x.1) = errRows.map fun x => (x.1, errRow x.2)) : ∃ ea, ErrEnv W ea := by
 have := h.filter (fun x => (errRows.map (·.1)).contains x.1)
 rw [e] at this
 exact errEnv_of_rows this
theorem more_17 (ea : List Addr) (w : World) (h : ErrEnv w ea) : Calls Tryd.prog 46 #[errI ea 17] w fun e w' => e = .returned (.int .i64 18) ∧ w = w' := by
 have c15 : w.cell? ⟨1, 0, none⟩ = some (errI ea 15) := h.cell 15 (by omega)
 have q15 : (binOp .eql 35 (errI ea 17) (errI ea 15)).run Tryd.prog w = .ok (.bool false) w := errI_eq h 17 15 (by omega) (by omega)
 have c16 : w.cell? ⟨18, 0, none⟩ = some (errI ea 16) := h.cell 16 (by omega)
 have q16 : (binOp .eql 35 (errI ea 17) (errI ea 16)).run Tryd.prog w = .ok (.bool false) w := errI_eq h 17 16 (by omega) (by omega)
 have c17 : w.cell? ⟨0, 0, none⟩ = some (errI ea 17) := h.cell 17 (by omega)
 have q17 : (binOp .eql 35 (errI ea 17) (errI ea 17)).run Tryd.prog w = .ok (.bool true) w := errI_eq h 17 17 (by omega) (by omega)
 have n0 := errI_nil ea 17 w
 have n1 := fun op x y => errI_guard0 ea 17 op x y w
 have n2 := fun j op x y => errI_guard ea 17 j op x y w
 clear h
 go_enter Tryd.func46, Tryd.ntmps46
 go_wp2
 go_ret
 exact ⟨rfl, rfl⟩
theorem Num_17 (ea : List Addr) (w : World) (h : ErrEnv w ea) : Calls Tryd.prog 27 #[errI ea 17] w fun e w' => e = .returned (.int .i64 18) ∧ w = w' := by
 have c0 : w.cell? ⟨2, 0, none⟩ = some (errI ea 0) := h.cell 0 (by omega)
 have q0 : (binOp .eql 35 (errI ea 17) (errI ea 0)).run Tryd.prog w = .ok (.bool false) w := errI_eq h 17 0 (by omega) (by omega)
 have c1 : w.cell? ⟨3, 0, none⟩ = some (errI ea 1) := h.cell 1 (by omega)
 have q1 : (binOp .eql 35 (errI ea 17) (errI ea 1)).run Tryd.prog w = .ok (.bool false) w := errI_eq h 17 1 (by omega) (by omega)
 have c2 : w.cell? ⟨4, 0, none⟩ = some (errI ea 2) := h.cell 2 (by omega)
 have q2 : (binOp .eql 35 (errI ea 17) (errI ea 2)).run Tryd.prog w = .ok (.bool false) w := errI_eq h 17 2 (by omega) (by omega)
 have c3 : w.cell? ⟨5, 0, none⟩ = some (errI ea 3) := h.cell 3 (by omega)
 have q3 : (binOp .eql 35 (errI ea 17) (errI ea 3)).run Tryd.prog w = .ok (.bool false) w := errI_eq h 17 3 (by omega) (by omega)
 have c4 : w.cell? ⟨6, 0, none⟩ = some (errI ea 4) := h.cell 4 (by omega)
 have q4 : (binOp .eql 35 (errI ea 17) (errI ea 4)).run Tryd.prog w = .ok (.bool false) w := errI_eq h 17 4 (by omega) (by omega)
 have c5 : w.cell? ⟨7, 0, none⟩ = some (errI ea 5) := h.cell 5 (by omega)
 have q5 : (binOp .eql 35 (errI ea 17) (errI ea 5)).run Tryd.prog w = .ok (.bool false) w := errI_eq h 17 5 (by omega) (by omega)
 have c6 : w.cell? ⟨8, 0, none⟩ = some (errI ea 6) := h.cell 6 (by omega)
 have q6 : (binOp .eql 35 (errI ea 17) (errI ea 6)).run Tryd.prog w = .ok (.bool false) w := errI_eq h 17 6 (by omega) (by omega)
 have c7 : w.cell? ⟨9, 0, none⟩ = some (errI ea 7) := h.cell 7 (by omega)
 have q7 : (binOp .eql 35 (errI ea 17) (errI ea 7)).run Tryd.prog w = .ok (.bool false) w := errI_eq h 17 7 (by omega) (by omega)
 have c8 : w.cell? ⟨10, 0, none⟩ = some (errI ea 8) := h.cell 8 (by omega)
 have q8 : (binOp .eql 35 (errI ea 17) (errI ea 8)).run Tryd.prog w = .ok (.bool false) w := errI_eq h 17 8 (by omega) (by omega)
 have c9 : w.cell? ⟨11, 0, none⟩ = some (errI ea 9) := h.cell 9 (by omega)
 have q9 : (binOp .eql 35 (errI ea 17) (errI ea 9)).run Tryd.prog w = .ok (.bool false) w := errI_eq h 17 9 (by omega) (by omega)
 have c10 : w.cell? ⟨12, 0, none⟩ = some (errI ea 10) := h.cell 10 (by omega)
 have q10 : (binOp .eql 35 (errI ea 17) (errI ea 10)).run Tryd.prog w = .ok (.bool false) w := errI_eq h 17 10 (by omega) (by omega)
 have c11 : w.cell? ⟨13, 0, none⟩ = some (errI ea 11) := h.cell 11 (by omega)
 have q11 : (binOp .eql 35 (errI ea 17) (errI ea 11)).run Tryd.prog w = .ok (.bool false) w := errI_eq h 17 11 (by omega) (by omega)
 have c12 : w.cell? ⟨14, 0, none⟩ = some (errI ea 12) := h.cell 12 (by omega)
 have q12 : (binOp .eql 35 (errI ea 17) (errI ea 12)).run Tryd.prog w = .ok (.bool false) w := errI_eq h 17 12 (by omega) (by omega)
 have c13 : w.cell? ⟨15, 0, none⟩ = some (errI ea 13) := h.cell 13 (by omega)
 have q13 : (binOp .eql 35 (errI ea 17) (errI ea 13)).run Tryd.prog w = .ok (.bool false) w := errI_eq h 17 13 (by omega) (by omega)
 have c14 : w.cell? ⟨16, 0, none⟩ = some (errI ea 14) := h.cell 14 (by omega)
 have q14 : (binOp .eql 35 (errI ea 17) (errI ea 14)).run Tryd.prog w = .ok (.bool false) w := errI_eq h 17 14 (by omega) (by omega)
 have n0 := errI_nil ea 17 w
 have n1 := fun op x y => errI_guard0 ea 17 op x y w
 have n2 := fun j op x y => errI_guard ea 17 j op x y w
 have H := LH h; clear h
 go_enter Tryd.func27, Tryd.ntmps27
 go_wp2_with fail
 refine (more_17 ea w H.out).mono ?_
 rintro e w' ⟨rfl, rfl⟩
 go_wp2
 go_ret
 exact ⟨rfl, rfl⟩
section
variable {P : Program} {md : Region.Mode} {ops : Array Oper} {Q : Exit → Act → World → Prop} {S : World → Prop}
end
end Go.Proofs.YthcldpminmhgkaaDoor
end
