/- Regions that draw their order and end with stores: what the loads read need hold only till the first of these may come up (operation number k, that waits for the loads). -/
import Derived.Test.YtmdpfikalekmlaaGreatDoorBase
import Derived.Deep.RegionHeldLaw
namespace Go.Proofs.YtmdpfikalekmlaaGreatDoor
open Go.RowKit
set_option linter.unusedVariables false

section
variable {P : Program} {md : Region.Mode} {ops : Array Oper} {Q : Exit → Act → World → Prop} {S : World → Prop} {k : Nat}
/-- Every order from here on is well; till number k has come up S holds. -/
def phAny (P : Program) (md : Region.Mode) (ops : Array Oper) (Q : Exit → Act → World → Prop) (S : World → Prop) (k : Nat) : Nat → Array Bool → Act → World → Prop
  | 0, l, a, w => Region.ready md ops l = [] ∧ Q .normal a w
  | n + 1, l, a, w => (Region.ready md ops l = [] → Q .normal a w) ∧
      ∀ i, i ∈ Region.ready md ops l → wpOp P ops Q i (fun b v => ((l.setIfInBounds i true).getD k true = false → S v) ∧ phAny P md ops Q S k n (l.setIfInBounds i true) b v) a w
theorem phAny.any {n : Nat} {l : Array Bool} {a : Act} {w : World} (h : phAny P md ops Q S k n l a w) : wpAny P md ops Q n l a w := by
  induction n generalizing l a w with
  | zero => exact h
  | succ n ih => exact ⟨h.1, fun i hi => wpOp_mono (fun _ _ x => ih x.2) (h.2 i hi)⟩
/-- Operation k waits for operation i. -/
def waitsB (md : Region.Mode) (ops : Array Oper) (k i : Nat) : Bool := match ops[k]? with
  | some o => o.after.any fun e => Region.binds md e && (e.on == i)
  | none => false
/-- Or through others. -/
def pathTo (md : Region.Mode) (ops : Array Oper) : Nat → List Nat → Nat → Bool
  | k, [], i => waitsB md ops k i
  | k, m :: p, i => waitsB md ops k m && pathTo md ops m p i
/-- What has come up had come up all that it waits for. -/
def clos (md : Region.Mode) (ops : Array Oper) (l : Array Bool) : Prop :=
  ∀ j o, ops[j]? = some o → l.getD j false = true → ∀ e ∈ o.after, Region.binds md e = true → l.getD e.on false = true
def closB (md : Region.Mode) (ops : Array Oper) (l : Array Bool) : Bool :=
  (List.range ops.size).all fun j => match ops[j]? with
    | some o => !(l.getD j false) || o.after.all fun e => !(Region.binds md e) || l.getD e.on false
    | none => true
theorem closB_spec {l : Array Bool} (h : closB md ops l = true) : clos md ops l := by
  intro j o ho hj e he hb
  have hlt : j < ops.size := (Array.getElem?_eq_some_iff.1 ho).1
  have h1 := List.all_eq_true.1 h j (List.mem_range.2 hlt)
  rw [ho] at h1
  simp only [hj, Bool.not_true, Bool.false_or] at h1
  have h2 := Array.all_eq_true_iff_forall_mem.1 h1 e he
  simpa [hb] using h2
theorem clos_set {l : Array Bool} {j : Nat} (h : clos md ops l) (hj : j ∈ Region.ready md ops l) : clos md ops (l.setIfInBounds j true) := by
  intro x o ho hx e he hb
  refine getD_set_true ?_
  by_cases e2 : j = x
  · subst e2
    obtain ⟨o2, ho2, hall⟩ := (mem_ready.1 hj).2
    rw [ho] at ho2; cases ho2
    exact hall e he hb
  · rw [getD_set_ne false e2] at hx
    exact h x o ho hx e he hb
theorem waits_edge {i : Nat} (h : waitsB md ops k i = true) : ∃ o, ops[k]? = some o ∧ ∃ e ∈ o.after, Region.binds md e = true ∧ e.on = i := by
  unfold waitsB at h
  cases ho : ops[k]? with
  | none => rw [ho] at h; cases h
  | some o =>
    rw [ho] at h
    obtain ⟨e, he, h2⟩ := Array.any_eq_true'.1 h
    rw [Bool.and_eq_true, beq_iff_eq] at h2
    exact ⟨o, rfl, e, he, h2.1, h2.2⟩
theorem path_un {l : Array Bool} (hc : clos md ops l) {i : Nat} (hi : ¬ l.getD i false = true) : ∀ (p : List Nat) (k : Nat), pathTo md ops k p i = true → ¬ l.getD k false = true := by
  intro p
  induction p with
  | nil =>
    intro k h hk
    obtain ⟨o, ho, e, he, hb, hon⟩ := waits_edge h
    exact hi (hon ▸ hc k o ho hk e he hb)
  | cons m p ih =>
    intro k h hk
    unfold pathTo at h
    rw [Bool.and_eq_true] at h
    obtain ⟨o, ho, e, he, hb, hon⟩ := waits_edge h.1
    exact ih m h.2 (hon ▸ hc k o ho hk e he hb)
theorem path_not {l : Array Bool} (hc : clos md ops l) {i : Nat} (hi : ¬ l.getD i false = true) {p : List Nat} (h : pathTo md ops k p i = true) : ¬ k ∈ Region.ready md ops l := by
  intro hk
  obtain ⟨-, o, ho, hall⟩ := mem_ready.1 hk
  cases p with
  | nil =>
    obtain ⟨o2, ho2, e, he, hb, hon⟩ := waits_edge h
    rw [ho] at ho2; cases ho2
    exact hi (hon ▸ hall e he hb)
  | cons m p =>
    unfold pathTo at h
    rw [Bool.and_eq_true] at h
    obtain ⟨o2, ho2, e, he, hb, hon⟩ := waits_edge h.1
    rw [ho] at ho2; cases ho2
    exact path_un hc hi p m h.2 (hon ▸ hall e he hb)
theorem un_of {l : Array Bool} {i : Nat} (h : i ∈ Region.ready md ops l) : ¬ l.getD i false = true := by
  have h0 := (mem_ready.1 h).1
  intro h1
  by_cases hlt : i < l.size
  · simp [hlt] at h0 h1; rw [h0] at h1; cases h1
  · simp [Array.getElem?_eq_none (Nat.le_of_not_lt hlt)] at h1
/-- A load that may come up now may be taken first. -/
theorem phAny_first {i : Nat} {oi : Oper} {v : Value} (hi : ops[i]? = some oi) (hn : Region.noSelect ops = true) {p : List Nat} (hk : pathTo md ops k p i = true) (hQ : ∀ c a w, Q (.panic c) (a.put oi.dst v) w → Q (.panic c) a w) (n : Nat) :
    ∀ (l : Array Bool) (a : Act) (w : World), clos md ops l →
      (∀ j oj, ops[j]? = some oj → j ≠ i → l.getD j true = false → (∀ e ∈ oj.after, Region.binds md e = true → e.on ≠ i) → oi.apart ops oj = true) →
      i ∈ Region.ready md ops l → l.getD k true = false → YieldsIf P ops S oi v a → S w →
      phAny P md ops Q S k n (l.setIfInBounds i true) (a.put oi.dst v) w → phAny P md ops Q S k (n + 1) l a w := by
  have sel := Region.noSelect_spec hn
  induction n with
  | zero =>
    intro l a w hz _ hr hl hy hS H
    constructor
    · intro e; rw [e] at hr; exact absurd hr List.not_mem_nil
    · intro j hj
      by_cases e : j = i
      · rw [e]; exact hy.wpOp hi hS ⟨fun _ => hS, H⟩
      · have h1 := ready_mono (i := i) hj e
        rw [H.1] at h1; exact absurd h1 List.not_mem_nil
  | succ n ih =>
    intro l a w hz hf hr hl hy hS H
    constructor
    · intro e; rw [e] at hr; exact absurd hr List.not_mem_nil
    · intro j hj
      by_cases e : j = i
      · rw [e]; exact hy.wpOp hi hS ⟨fun _ => hS, H⟩
      · have hun := (mem_ready.1 hj).1
        obtain ⟨oj, hoj, hall⟩ := (mem_ready.1 hj).2
        have hno : ∀ x ∈ oj.after, Region.binds md x = true → x.on ≠ i := by
          intro x hx hb he
          have h1 := hall x hx hb
          have h0 := (mem_ready.1 hr).1
          rw [he] at h1
          by_cases hlt : i < l.size
          · simp [hlt] at h0 h1; rw [h0] at h1; cases h1
          · simp [Array.getElem?_eq_none (Nat.le_of_not_lt hlt)] at h1
        have hjk : j ≠ k := fun e2 => path_not hz (un_of hr) hk (e2 ▸ hj)
        have hko : (l.setIfInBounds j true).getD k true = false := by rw [getD_set_ne true hjk]; exact hl
        have step := wpOp_putIf (S := S) hoj (hf j oj hoj e hun hno) (fun cs b => sel i oi cs b hi) (fun cs b => sel j oj cs b hoj) hQ hy (H.2 j (ready_mono hj e))
        refine wpOp_mono (fun b u h3 => ?_) step
        obtain ⟨hy', hS', H'⟩ := h3
        have hki : ((l.setIfInBounds i true).setIfInBounds j true).getD k true = false := by
          rw [Array.setIfInBounds_comm _ _ (Ne.symm e)]
          have hik : i ≠ k := fun e2 => path_not hz (un_of hr) hk (e2 ▸ hr)
          rw [getD_set_ne true hik]; exact hko
        refine ⟨fun _ => hS' hki, ih (l.setIfInBounds j true) b u (clos_set hz hj) ?_ (ready_mono hr (Ne.symm e)) hko hy' (hS' hki) ?_⟩
        · intro x ox hx hxi hxu hxn
          refine hf x ox hx hxi ?_ hxn
          by_cases hjx : j = x
          · rw [← hjx]; exact hun
          · rw [getD_set_ne true hjx] at hxu; exact hxu
        · rw [Array.setIfInBounds_comm _ _ e]; exact H'
theorem phAny_take {i : Nat} {oi : Oper} {v : Value} {n : Nat} {l : Array Bool} {a : Act} {w : World} (p : List Nat) (hi : ops[i]? = some oi) (hc : (Region.noSelect ops && pathTo md ops k p i && Region.free md ops l i && (Region.ready md ops l).contains i && closB md ops l && (l.getD k true == false)) = true)
    (hQ : ∀ c a w, Q (.panic c) (a.put oi.dst v) w → Q (.panic c) a w) (hy : YieldsIf P ops S oi v a) (hS : S w)
    (h : phAny P md ops Q S k n (l.setIfInBounds i true) (a.put oi.dst v) w) : phAny P md ops Q S k (n + 1) l a w := by
  simp only [Bool.and_eq_true, beq_iff_eq] at hc
  obtain ⟨⟨⟨⟨⟨h1, h2⟩, h3⟩, h4⟩, h5⟩, h6⟩ := hc
  exact phAny_first hi h1 h2 hQ n l a w (closB_spec h5) (Region.free_spec hi h3) (by simpa using h4) h6 hy hS h
/-- What yields in whatever world may be taken first. -/
theorem phAny_pure1 {i : Nat} {oi : Oper} {v : Value} (hi : ops[i]? = some oi) (hn : Region.noSelect ops = true) (hik : i ≠ k) (hQ : ∀ c a w, Q (.panic c) (a.put oi.dst v) w → Q (.panic c) a w) (n : Nat) :
    ∀ (l : Array Bool) (a : Act) (w : World),
      (∀ j oj, ops[j]? = some oj → j ≠ i → l.getD j true = false → (∀ e ∈ oj.after, Region.binds md e = true → e.on ≠ i) → oi.apart ops oj = true) →
      i ∈ Region.ready md ops l → (l.getD k true = false → S w) → YieldsIf P ops (fun _ => True) oi v a →
      phAny P md ops Q S k n (l.setIfInBounds i true) (a.put oi.dst v) w → phAny P md ops Q S k (n + 1) l a w := by
  have sel := Region.noSelect_spec hn
  induction n with
  | zero =>
    intro l a w _ hr hS hy H
    constructor
    · intro e; rw [e] at hr; exact absurd hr List.not_mem_nil
    · intro j hj
      by_cases e : j = i
      · rw [e]; exact hy.wpOp hi trivial ⟨fun h => hS (by rw [getD_set_ne true hik] at h; exact h), H⟩
      · have h1 := ready_mono (i := i) hj e
        rw [H.1] at h1; exact absurd h1 List.not_mem_nil
  | succ n ih =>
    intro l a w hf hr hS hy H
    constructor
    · intro e; rw [e] at hr; exact absurd hr List.not_mem_nil
    · intro j hj
      by_cases e : j = i
      · rw [e]; exact hy.wpOp hi trivial ⟨fun h => hS (by rw [getD_set_ne true hik] at h; exact h), H⟩
      · have hun := (mem_ready.1 hj).1
        obtain ⟨oj, hoj, hall⟩ := (mem_ready.1 hj).2
        have hno : ∀ x ∈ oj.after, Region.binds md x = true → x.on ≠ i := fun x hx hb he => un_of hr (he ▸ hall x hx hb)
        have step := wpOp_putIf (S := fun _ => True) hoj (hf j oj hoj e hun hno) (fun cs b => sel i oi cs b hi) (fun cs b => sel j oj cs b hoj) hQ hy (H.2 j (ready_mono hj e))
        refine wpOp_mono (fun b u h3 => ?_) step
        obtain ⟨hy', hS', H'⟩ := h3
        have hsw : (l.setIfInBounds j true).getD k true = false → S u := fun h => hS' (by rw [Array.setIfInBounds_comm _ _ (Ne.symm e), getD_set_ne true hik]; exact h)
        refine ⟨hsw, ih (l.setIfInBounds j true) b u ?_ (ready_mono hr (Ne.symm e)) hsw hy' ?_⟩
        · intro x ox hx hxi hxu hxn
          refine hf x ox hx hxi ?_ hxn
          by_cases hjx : j = x
          · rw [← hjx]; exact hun
          · rw [getD_set_ne true hjx] at hxu; exact hxu
        · rw [Array.setIfInBounds_comm _ _ e]; exact H'
theorem phAny_pure {i : Nat} {oi : Oper} {v : Value} {n : Nat} {l : Array Bool} {a : Act} {w : World} (hi : ops[i]? = some oi) (hc : (Region.noSelect ops && Region.free md ops l i && (Region.ready md ops l).contains i && !(i == k)) = true)
    (hQ : ∀ c a w, Q (.panic c) (a.put oi.dst v) w → Q (.panic c) a w) (hy : YieldsIf P ops (fun _ => True) oi v a) (hS : l.getD k true = false → S w)
    (h : phAny P md ops Q S k n (l.setIfInBounds i true) (a.put oi.dst v) w) : phAny P md ops Q S k (n + 1) l a w := by
  simp only [Bool.and_eq_true, Bool.not_eq_true', beq_eq_false_iff_ne] at hc
  obtain ⟨⟨⟨h1, h3⟩, h4⟩, h6⟩ := hc
  exact phAny_pure1 hi h1 h6 hQ n l a w (Region.free_spec hi h3) (by simpa using h4) hS hy h
/-- The operations that may come up, one behind the other. -/
def phAll (P : Program) (md : Region.Mode) (ops : Array Oper) (Q : Exit → Act → World → Prop) (S : World → Prop) (k n : Nat) (l : Array Bool) (a : Act) (w : World) (rs : List Nat) : Prop :=
  ∀ i, i ∈ rs → wpOp P ops Q i (fun b v => ((l.setIfInBounds i true).getD k true = false → S v) ∧ phAny P md ops Q S k n (l.setIfInBounds i true) b v) a w
theorem phAll.nil {n : Nat} {l : Array Bool} {a : Act} {w : World} : phAll P md ops Q S k n l a w [] := fun _ h => absurd h List.not_mem_nil
theorem phAll.cons {n : Nat} {l : Array Bool} {a : Act} {w : World} {i : Nat} {o : Oper} {rs : List Nat} (ho : ops[i]? = some o)
    (h : ∀ K : Act → World → Prop, Shut (∀ b v, ((l.setIfInBounds i true).getD k true = false → S v) → phAny P md ops Q S k n (l.setIfInBounds i true) b v → K b v) → if Region.wanted o (yielded ops a.tmps) = true then Oper.wp P o a w K Q else K (a.put o.dst undef) w)
    (hs : phAll P md ops Q S k n l a w rs) : phAll P md ops Q S k n l a w (i :: rs) := by
  intro j hj
  rcases List.mem_cons.1 hj with e | hj
  · rw [e]; exact wpOp_step ho fun K hK => h K fun b v h1 h2 => hK b v ⟨h1, h2⟩
  · exact hs j hj
theorem phAny_ready {rs : List Nat} {n : Nat} {l : Array Bool} {a : Act} {w : World} (hr : Region.ready md ops l = rs) (hne : rs ≠ []) (h : phAll P md ops Q S k n l a w rs) : phAny P md ops Q S k (n + 1) l a w :=
  ⟨fun e => absurd (hr.symm.trans e) hne, fun i hi => h i (hr ▸ hi)⟩
theorem phAny_done {l : Array Bool} {a : Act} {w : World} (hr : Region.ready md ops l = []) (h : Q .normal a w) (n : Nat) : phAny P md ops Q S k n l a w := by
  cases n with
  | zero => exact ⟨hr, h⟩
  | succ n => exact ⟨fun _ => h, fun i hi => by rw [hr] at hi; exact absurd hi List.not_mem_nil⟩
theorem ph_region {id : Nat} {a : Act} {w : World} (S : World → Prop) (k : Nat) (hm : P.follows .mixedOrders = true)
    (h : phAny P .any ops Q S k ops.size (Array.replicate ops.size false) a w.drew) : (Code.region id ops true).wp P Q a w :=
  wp_region_any hm h.any
end
end Go.Proofs.YtmdpfikalekmlaaGreatDoor
