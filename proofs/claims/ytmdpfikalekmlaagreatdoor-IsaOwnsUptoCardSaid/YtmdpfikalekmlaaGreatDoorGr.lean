/- A drawn region whose operations, up to number m, each only add to the world: what each has yielded holds behind all of them, in any order; what stands from m on then runs in its own order. -/
import Derived.Test.YtmdpfikalekmlaaGreatDoorProg
import Derived.Test.YtmdpfikalekmlaaGreatDoorPi
import Derived.StillTail
import Derived.Below
namespace Go.Proofs.YtmdpfikalekmlaaGreatDoor
open Go Go.RowKit
set_option linter.unusedVariables false

section
variable {P : Program} {ops : Array Oper} {Q : Exit → Act → World → Prop} {md : Region.Mode}
/-- Region number k of a body. -/
def regAt (k : Nat) : Code → Option Code
  | .region id ops d => if id = k then some (.region id ops d) else none
  | .seq a b => match regAt k a with
    | some c => some c
    | none => regAt k b
  | .block _ c => regAt k c
  | .scope c => regAt k c
  | .cond _ a b => match regAt k a with
    | some c => some c
    | none => regAt k b
  | .loop c => regAt k c
  | _ => none
def dstAt (ops : Array Oper) (i : Nat) : Option Nat := (ops[i]?).bind (·.dst)
/-- What operation j has yielded. -/
def valOf (ops : Array Oper) (a : Act) (j : Nat) : Value := match dstAt ops j with
  | some d => a.tmps.getD d undef
  | none => undef
/-- What operation i may speak of: the values of those that it waits for. -/
def maskV (md : Region.Mode) (ops : Array Oper) (i : Nat) (f : Nat → Value) (j : Nat) : Value := if Region.waitsFor md ops i j = true then f j else undef
/-- And the blocks that they, and itself, have made. -/
def maskT (md : Region.Mode) (ops : Array Oper) (i : Nat) (T : Nat → Nat → Prop) (j b : Nat) : Prop := (j = i ∨ Region.waitsFor md ops i j = true) ∧ T j b
def updT (T : Nat → Nat → Prop) (i lo hi : Nat) (j b : Nat) : Prop := if j = i then lo ≤ b ∧ b < hi else T j b
/-- What an operation may count on: the frame beside the region's own slots; what is done has yielded what G says; T: the blocks that each has made. -/
structure GrI (md : Region.Mode) (ops : Array Oper) (m : Nat) (G : Nat → Value → (Nat → Value) → (Nat → Nat → Prop) → World → Prop) (a0 : Act) (w0 : World) (listed : Array Bool) (T : Nat → Nat → Prop) (a : Act) (w : World) : Prop where
  bel : Below w0.heap.size w0 w
  def_ : a.defers = a0.defers
  size : a.tmps.size = a0.tmps.size
  off : ∀ s, (∀ i, i < m → dstAt ops i ≠ some s) → a.tmps.getD s undef = a0.tmps.getD s undef
  made : ∀ i, i < m → listed.getD i false = true → G i (valOf ops a i) (maskV md ops i (valOf ops a)) (maskT md ops i T) w
  tlt : ∀ i b, T i b → listed.getD i false = true ∧ w0.heap.size ≤ b ∧ b < w.heap.size
  tdis : ∀ i j b, T i b → T j b → i = j
theorem getD_put {l : Array Value} {d s : Nat} {v : Value} : (l.setIfInBounds d v).getD s undef = if d = s ∧ d < l.size then v else l.getD s undef := by
  simp only [Array.getD_eq_getD_getElem?, Array.getElem?_setIfInBounds]
  by_cases h : d = s
  · subst h
    by_cases h2 : d < l.size
    · simp [h2]
    · simp [h2]
  · simp [h]
theorem put_getD {a : Act} {o : Option Nat} {s : Nat} {v : Value} (h : o ≠ some s) : (a.put o v).tmps.getD s undef = a.tmps.getD s undef := by
  unfold Act.put
  cases o with
  | none => rfl
  | some d =>
    simp only []
    rw [getD_put, if_neg (fun e => h (by rw [e.1]))]
theorem GrI.step {m : Nat} {G : Nat → Value → (Nat → Value) → (Nat → Nat → Prop) → World → Prop} {a0 : Act} {w0 w w' : World} {listed : Array Bool} {T : Nat → Nat → Prop} {a : Act} (h : GrI md ops m G a0 w0 listed T a w)
    (hst : ∀ i v f t w w', G i v f t w → Below w.heap.size w w' → G i v f t w') (hin : ∀ i d, i < m → dstAt ops i = some d → d < a0.tmps.size) (hone : ∀ i j d, i < m → j < ops.size → dstAt ops i = some d → dstAt ops j = some d → i = j)
    (hcl : ∀ i j, i < m → listed.getD i false = true → Region.waitsFor md ops i j = true → listed.getD j false = true)
    {i : Nat} (hi : i < m) {o : Oper} (ho : ops[i]? = some o) (hun : listed.getD i false = false) (hl : i < listed.size) {v : Value} (hb : Below w.heap.size w w') (hv : o.dst = none → v = undef) (hi2 : Region.waitsFor md ops i i = false)
    (hG : G i v (maskV md ops i (valOf ops a)) (maskT md ops i (updT T i w.heap.size w'.heap.size)) w') : GrI md ops m G a0 w0 (listed.setIfInBounds i true) (updT T i w.heap.size w'.heap.size) (a.put o.dst v) w' := by
  have hdi : dstAt ops i = o.dst := by unfold dstAt; rw [ho]; rfl
  have hsame : ∀ j, j ≠ i → valOf ops (a.put o.dst v) j = valOf ops a j := by
    intro j hj
    unfold valOf
    cases hd : dstAt ops j with
    | none => rfl
    | some d =>
      simp only []
      refine put_getD fun e => ?_
      have hjs : j < ops.size := by
        rcases Nat.lt_or_ge j ops.size with h | h
        · exact h
        · unfold dstAt at hd; rw [Array.getElem?_eq_none h] at hd; cases hd
      exact hj (hone i j d hi hjs (by rw [hdi, e]) hd).symm
  have hself : valOf ops (a.put o.dst v) i = v := by
    unfold valOf
    rw [hdi]
    unfold Act.put
    cases hd : o.dst with
    | none => exact (hv hd).symm
    | some d =>
      simp only []
      rw [getD_put, if_pos ⟨rfl, by rw [h.size]; exact hin i d hi (by rw [hdi]; exact hd)⟩]
  refine ⟨h.bel.trans (hb.mono h.bel.size), ?_, ?_, fun s hs => ?_, fun j hj hlj => ?_, fun j b hT => ?_, fun j k b h1 h2 => ?_⟩
  · rw [← h.def_]; unfold Act.put; cases o.dst <;> rfl
  · rw [← h.size]; unfold Act.put; cases o.dst <;> simp
  · rw [← h.off s hs]
    exact put_getD (by rw [← hdi]; exact hs i hi)
  · by_cases hij : i = j
    · subst hij
      have e : maskV md ops i (valOf ops (a.put o.dst v)) = maskV md ops i (valOf ops a) := by
        funext k
        unfold maskV
        split
        · rename_i hk
          exact hsame k (fun e => by subst e; rw [hi2] at hk; cases hk)
        · rfl
      rw [hself, e]
      exact hG
    · rw [getD_set_ne false hij] at hlj
      have hnw : Region.waitsFor md ops j i = false := by
        cases hw : Region.waitsFor md ops j i with
        | false => rfl
        | true => have := hcl j i hj hlj hw; rw [hun] at this; cases this
      have e : maskV md ops j (valOf ops (a.put o.dst v)) = maskV md ops j (valOf ops a) := by
        funext k
        unfold maskV
        split
        · rename_i hk
          exact hsame k (fun e => by subst e; rw [hnw] at hk; cases hk)
        · rfl
      have e2 : maskT md ops j (updT T i w.heap.size w'.heap.size) = maskT md ops j T := by
        funext k b
        unfold maskT updT
        by_cases hk : k = i
        · subst hk
          rw [hnw]
          have : ¬ k = j := hij
          simp [this]
        · rw [if_neg hk]
      rw [hsame j (fun e => hij e.symm), e, e2]
      exact hst _ _ _ _ _ _ (h.made j hj hlj) hb
  · unfold updT at hT
    by_cases hj : j = i
    · rw [if_pos hj] at hT
      subst hj
      exact ⟨by simp [Array.getD, hl], Nat.le_trans h.bel.size hT.1, hT.2⟩
    · rw [if_neg hj] at hT
      have := h.tlt j b hT
      exact ⟨getD_set_true this.1, this.2.1, Nat.lt_of_lt_of_le this.2.2 hb.size⟩
  · unfold updT at h1 h2
    by_cases hj : j = i <;> by_cases hk : k = i
    · rw [hj, hk]
    · rw [if_pos hj] at h1; rw [if_neg hk] at h2
      have := (h.tlt k b h2).2.2
      omega
    · rw [if_neg hj] at h1; rw [if_pos hk] at h2
      have := (h.tlt j b h1).2.2
      omega
    · rw [if_neg hj] at h1; rw [if_neg hk] at h2
      exact h.tdis j k b h1 h2
/-- The first m operations listed, and no others. -/
def upTo (n m : Nat) : Array Bool := ((List.range n).map fun i => decide (i < m)).toArray
theorem upTo_eq {n m : Nat} {listed : Array Bool} (hs : listed.size = n) (hm : m ≤ n) (h1 : ∀ i, i < m → listed.getD i false = true) (h2 : ∀ i, m ≤ i → i < n → listed.getD i true = false) : listed = upTo n m := by
  apply Array.ext
  · simp [upTo, hs]
  · intro i hi hi2
    have e : (upTo n m)[i] = decide (i < m) := by simp [upTo]
    rw [e]
    by_cases h : i < m
    · have := h1 i h
      simp [Array.getD, hi] at this
      simp [this, h]
    · have := h2 i (by omega) (by omega)
      simp [Array.getD, hi] at this
      simp [this, h]
theorem wpAny_grow {G : Nat → Value → (Nat → Value) → (Nat → Nat → Prop) → World → Prop} {a0 : Act} {w0 : World} (m g : Nat) (hm : m + g = ops.size)
    (hst : ∀ i v f t w w', G i v f t w → Below w.heap.size w w' → G i v f t w') (hin : ∀ i d, i < m → dstAt ops i = some d → d < a0.tmps.size) (hone : ∀ i j d, i < m → j < ops.size → dstAt ops i = some d → dstAt ops j = some d → i = j)
    (hseq : Region.seqB md ops g m (upTo ops.size m) = true)
    (hedge : (List.range m).all (fun i => ((ops[i]?).map fun o => o.after.all fun e => decide (e.on < i)).getD true) = true)
    (htail : m = ops.size ∨ (Region.sinkB md ops m = true ∧ Region.chainB md ops m = true))
    (hop : ∀ (listed : Array Bool) (T : Nat → Nat → Prop) (i : Nat) (o : Oper) (a : Act) (w : World), i < m → ops[i]? = some o → GrI md ops m G a0 w0 listed T a w → (∀ j, Region.waitsFor md ops i j = true → listed.getD j false = true) → (∀ i j, i < m → listed.getD i false = true → Region.waitsFor md ops i j = true → listed.getD j false = true) →
      ∀ K : Act → World → Prop, (∀ v w', (o.dst = none → v = undef) → Below w.heap.size w w' → G i v (maskV md ops i (valOf ops a)) (maskT md ops i (updT T i w.heap.size w'.heap.size)) w' → K (a.put o.dst v) w') → wpOp P ops Q i K a w)
    (hlast : ∀ (listed : Array Bool) (T : Nat → Nat → Prop) (a : Act) (w : World), (∀ i, i < m → listed.getD i false = true) → GrI md ops m G a0 w0 listed T a w → wpList P ops Q (ops.toList.drop m) a w) :
    wpAny P md ops Q ops.size (Array.replicate ops.size false) a0 w0 := by
  have hmain : ∀ (n : Nat) (listed : Array Bool) (T : Nat → Nat → Prop) (a : Act) (w : World), HeadInv md ops m listed → GrI md ops m G a0 w0 listed T a w →
      (undone listed = n + g) → wpAny P md ops Q (n + g) listed a w := by
    intro n
    induction n with
    | zero =>
      intro listed T a w hinv hI hu
      have hsz := hinv.size
      have htl := hinv.tail
      have hall : ∀ i, i < m → listed.getD i false = true := by
        have hcount : (listed.toList.drop m).count false = g := by
          have hl : (listed.toList.drop m) = List.replicate g false := by
            apply List.ext_getElem
            · rw [List.length_drop, Array.length_toList, List.length_replicate]; omega
            · intro i h1 h2
              rw [List.getElem_drop, List.getElem_replicate]
              rw [List.length_drop, Array.length_toList] at h1
              have := htl (m + i) (by omega) (by omega)
              simpa [Array.getD, show m + i < listed.size by omega] using this
          rw [hl]; simp
        have hsplit : undone listed = (listed.toList.take m).count false + (listed.toList.drop m).count false := by
          unfold undone; rw [← List.count_append, List.take_append_drop]
        have h0 : (listed.toList.take m).count false = 0 := by omega
        intro i hi
        have hil : i < listed.size := by omega
        have hne : ¬ false ∈ listed.toList.take m := List.count_eq_zero.1 h0
        cases hv : listed.getD i false with
        | true => rfl
        | false =>
          exfalso
          apply hne
          have : listed.toList[i]'(by rw [Array.length_toList]; exact hil) = false := by simpa [Array.getD, hil] using hv
          rw [← this]
          exact List.mem_take_iff_getElem.2 ⟨i, by rw [Array.length_toList]; omega, rfl⟩
      have hL := hlast listed T a w hall hI
      have hlen : (ops.toList.drop m).length = g := by rw [List.length_drop, Array.length_toList]; omega
      have := wpAny_of_seq (md := md) (Q' := Q) (ops.toList.drop m) m listed a w (fun j => by rw [List.getElem?_drop]; simp) (by rw [hlen]; rw [upTo_eq hsz (by omega) hall htl]; exact hseq) hL
      rw [hlen] at this
      rw [Nat.zero_add]
      exact this
    | succ n ih =>
      intro listed T a w hinv hI hu
      have hsz := hinv.size
      have htl := hinv.tail
      rw [show n + 1 + g = (n + g) + 1 by omega]
      have hex : ∃ i, i < m ∧ listed.getD i true = false ∧ ∀ j, j < i → listed.getD j false = true := by
        have : ∃ i, i < m ∧ listed.getD i true = false := by
          refine Classical.byContradiction fun hn => ?_
          have hall : ∀ i, i < m → listed.getD i true = true := fun i hi => by
            cases h : listed.getD i true with
            | true => rfl
            | false => exact absurd ⟨i, hi, h⟩ hn
          have hle : undone listed ≤ g := by
            unfold undone
            have hsplit : listed.toList.count false = (listed.toList.take m).count false + (listed.toList.drop m).count false := by
              rw [← List.count_append, List.take_append_drop]
            have h0 : (listed.toList.take m).count false = 0 := by
              rw [List.count_eq_zero]
              intro hmem
              obtain ⟨i, hi, he⟩ := List.mem_take_iff_getElem.1 hmem
              rw [Array.length_toList] at hi
              have := hall i (by omega)
              have h3 : i < listed.size := by omega
              simp [Array.getD, h3] at this
              simp [this] at he
            have h1 : (listed.toList.drop m).count false ≤ g := by
              refine Nat.le_trans (List.count_le_length) ?_
              rw [List.length_drop, Array.length_toList]; omega
            omega
          omega
        obtain ⟨i, hi⟩ := this
        induction i using Nat.strongRecOn with
        | _ i ih2 =>
          by_cases hj : ∃ j, j < i ∧ listed.getD j false = false
          · obtain ⟨j, hj1, hj2⟩ := hj
            refine ih2 j hj1 ⟨by omega, ?_⟩
            have : j < listed.size := by omega
            simp [Array.getD, this] at hj2 ⊢
            exact hj2
          · refine ⟨i, hi.1, hi.2, fun j hj1 => ?_⟩
            cases h : listed.getD j false with
            | true => rfl
            | false => exact absurd ⟨j, hj1, h⟩ hj
      obtain ⟨i0, hi0, hu0, hall0⟩ := hex
      have hin0 : i0 < ops.size := by omega
      have hr0 : i0 ∈ Region.ready md ops listed := by
        refine mem_ready.2 ⟨hu0, ops[i0], Array.getElem?_eq_getElem hin0, fun e he hb => ?_⟩
        have h1 := List.all_eq_true.1 hedge i0 (List.mem_range.2 hi0)
        rw [Array.getElem?_eq_getElem hin0] at h1
        simp only [Option.map_some, Option.getD_some] at h1
        have h2 := Array.all_eq_true_iff_forall_mem.1 h1 e he
        exact hall0 e.on (by simpa using h2)
      refine ⟨fun h => (by rw [h] at hr0; cases hr0), fun i hi => ?_⟩
      obtain ⟨hun, o, ho, hafter⟩ := mem_ready.1 hi
      have hil : i < ops.size := (Array.getElem?_eq_some_iff.1 ho).1
      have him : i < m := by
        rcases Nat.lt_or_ge i m with h | h
        · exact h
        · exfalso
          rcases htail with h1 | ⟨h1, h2⟩
          · omega
          · exact tail_waits h1 h2 (by omega) hinv _ i0 rfl hi0 hu0 i h hi
      have hwl : ∀ j, Region.waitsFor md ops i j = true → listed.getD j false = true := fun j hj => by
        obtain ⟨o', ho', e, he, hb, hon⟩ := Region.waitsFor_spec hj
        rw [ho] at ho'; cases ho'
        rw [← hon]; exact hafter e he hb
      have hii : Region.waitsFor md ops i i = false := by
        cases hw : Region.waitsFor md ops i i with
        | false => rfl
        | true => have := hwl i hw; rw [getD_both hun] at this; cases this
      have hcl : ∀ i j, i < m → listed.getD i false = true → Region.waitsFor md ops i j = true → listed.getD j false = true := fun j k hj hlj hw => by
        obtain ⟨o', ho', e, he, hb, hon⟩ := Region.waitsFor_spec hw
        rw [← hon]; exact hinv.closed j o' ho' hlj e he hb
      refine hop listed T i o a w him ho hI hwl hcl _ fun v w' hv hb hG => ?_
      refine ih _ _ _ _ (hinv.set hi him) (hI.step hst hin hone hcl him ho (getD_both hun) (by omega) hb hv hii hG) ?_
      have := undone_set hun
      omega
  have h0 := hmain m (Array.replicate ops.size false) (fun _ _ => False) a0 w0 ⟨by simp, fun j oj _ hl => (by rw [getD_replicate_false] at hl; cases hl), fun t _ ht => getD_in (by simpa using ht) (getD_replicate_false _ _)⟩
    ⟨Below.refl _ _, rfl, rfl, fun _ _ => rfl, fun i _ h => (by rw [getD_replicate_false] at h; cases h), fun _ _ h => h.elim, fun _ _ _ h => h.elim⟩ (by unfold undone; simp; omega)
  rw [hm] at h0
  exact h0
/-- A law for a list of operations serves one operation. -/
def QK (K : Act → World → Prop) (Q : Exit → Act → World → Prop) : Exit → Act → World → Prop := fun ex a w => match ex with
  | .normal => K a w
  | e => Q e a w
theorem upon_QK {o : Oper} {a : Act} {K next : Act → World → Prop} (r : Result Next) (h : o.upon P a next (QK K Q) r) : o.upon P a next Q r := by
  cases r with
  | ok n w' => cases n <;> exact h
  | halt hh w' => cases hh <;> exact h
theorem wpOp_of_list {i : Nat} {o : Oper} {K : Act → World → Prop} {a : Act} {w : World} (ho : ops[i]? = some o) (h : wpList P ops (QK K Q) [o] a w) : wpOp P ops Q i K a w := by
  unfold wpOp
  rw [ho]
  simp only []
  unfold wpList at h
  split
  · rename_i hw
    rw [if_pos hw] at h
    rcases h with h | h
    · exact Or.inl (upon_QK _ h)
    · exact Or.inr h
  · rename_i hw
    rw [if_neg hw] at h
    exact h
end
end Go.Proofs.YtmdpfikalekmlaaGreatDoor
