/- A slice that reads as a list of values of a Lean type, wherever it lies. -/
import Derived.Test.YtmdpfikalekmlaaGreatDoorOwnL
import Derived.Deep.Slices
import Derived.Deep.Fields
import Derived.ChangeSame
namespace Go.Proofs.YtmdpfikalekmlaaGreatDoor
open Go.RowKit

theorem block_of_add (a : Addr) (n : Nat) : (a.add n).block = a.block := by unfold Addr.add; split <;> rfl
theorem add_of_add (a : Addr) (i j : Nat) : (a.add i).add j = a.add (i + j) := by
  unfold Addr.add
  by_cases hi : i = 0 <;> by_cases hj : j = 0 <;> simp [hi, hj, Nat.add_assoc]
/-- The slice v reads as the list l, in a block below B. -/
def RdL {α : Type} (S : Shape α) (w : World) (B : Nat) (v : Value) (l : List α) : Prop :=
  ∃ A cap, v = .slice A l.length cap ∧ l.length ≤ cap ∧ cap ≤ maxLen ∧ (0 < l.length → ∃ a, A = some a ∧ a.block < B ∧ ∀ j u, (S.cells l)[j]? = some u → w.cell? (a.add j) = some u) ∧ (A = none → cap = 0)
section
variable {α : Type} {S : Shape α} {w w' : World} {B B' : Nat} {v : Value} {l : List α}
theorem RdL.keep (h : RdL S w B v l) (hk : ∀ p : Addr, p.block < B → w'.cell? p = w.cell? p) : RdL S w' B v l := by
  obtain ⟨A, cap, e, h1, h2, h3, h4⟩ := h
  refine ⟨A, cap, e, h1, h2, fun hn => ?_, h4⟩
  obtain ⟨a, e2, hb, hc⟩ := h3 hn
  exact ⟨a, e2, hb, fun j u hu => (hk _ (by rw [block_of_add]; exact hb)).trans (hc j u hu)⟩
theorem RdL.below (h : RdL S w B v l) (hb : Below B w w') : RdL S w' B v l := h.keep fun _ hp => hb.cell hp
theorem RdL.belowW (h : RdL S w B v l) (hB : B ≤ w.heap.size) (hb : Below w.heap.size w w') : RdL S w' B v l := h.keep fun _ hp => hb.cell (by omega)
theorem RdL.more (h : RdL S w B v l) (hB : B ≤ B') : RdL S w B' v l := by
  obtain ⟨A, cap, e, h1, h2, h3, h4⟩ := h
  refine ⟨A, cap, e, h1, h2, fun hn => ?_, h4⟩
  obtain ⟨a, e2, hb, hc⟩ := h3 hn
  exact ⟨a, e2, by omega, hc⟩
theorem RdL.alloc (h : RdL S w B v l) (hB : B ≤ w.heap.size) (o : Obj) : RdL S (w.alloc o) B v l := h.keep fun p hp => World.cell?_alloc_lt w o p (by omega)
theorem RdL.drew (h : RdL S w B v l) : RdL S w.drew B v l := h
theorem RdL.nil (S : Shape α) (w : World) (B : Nat) : RdL S w B (.slice none 0 0) [] := ⟨none, 0, rfl, by simp, by unfold maxLen; omega, fun h => (by simp at h), fun _ => rfl⟩
theorem RdL.open_ (h : RdL S w B v l) : ∃ A cap, v = .slice A l.length cap ∧ l.length ≤ cap ∧ cap ≤ maxLen := by
  obtain ⟨A, cap, e, h1, h2, _, _⟩ := h
  exact ⟨A, cap, e, h1, h2⟩
theorem RdL.at_ {A : Option Addr} {n cap : Nat} (h : RdL S w B (.slice A n cap) l) (hS : S.Ok) {k : Nat} (hk : k < l.length) :
    ∃ a, A = some a ∧ a.block < B ∧ ∀ j u, j < S.size → (S.enc l[k])[j]? = some u → w.cell? (a.add (k * S.size + j)) = some u := by
  obtain ⟨A', cap', e, h1, h2, h3, _⟩ := h
  injection e with e1 e2 e3
  subst e1
  obtain ⟨a, e4, hb, hc⟩ := h3 (by omega)
  refine ⟨a, e4, hb, fun j u hj hu => hc _ u ?_⟩
  rw [Shape.cells_get hS l k j hk hj]; exact hu
theorem add_succ (a : Addr) (n j : Nat) : a.add (n + (j + 1)) = ⟨(a.add n).block, (a.add n).off + (j + 1), none⟩ := by
  rw [← add_of_add, Addr.add, if_neg (by omega)]
/-- The same, as the walk spells the places. -/
theorem RdL.at2 {A : Option Addr} {n cap : Nat} (h : RdL S w B (.slice A n cap) l) (hS : S.Ok) {k : Nat} (hk : k < l.length) :
    ∃ a, A = some a ∧ (a.add (k * S.size)).block < B ∧ (∀ u, (S.enc l[k])[0]? = some u → w.cell? (a.add (k * S.size)) = some u) ∧
      ∀ j u, j + 1 < S.size → (S.enc l[k])[j + 1]? = some u → w.cell? ⟨(a.add (k * S.size)).block, (a.add (k * S.size)).off + (j + 1), none⟩ = some u := by
  obtain ⟨a, e, hb, hc⟩ := h.at_ hS hk
  exact ⟨a, e, by rw [block_of_add]; exact hb, fun u hu => hc 0 u hS.pos hu, fun j u hj hu => by rw [← add_succ]; exact hc _ u hj hu⟩
theorem RdL.of_own (h : OwnL S w B v l) : RdL S w w.heap.size v l := by
  rcases h.2 with ⟨rfl, h0⟩ | ⟨g, cap, cur, hv, hg, hh, hn, hm, _⟩
  · have : l = [] := List.eq_nil_of_length_eq_zero h0
    subst this
    exact RdL.nil S w _
  · subst hv
    refine ⟨_, cap, rfl, hn, hm, fun hl => ⟨_, rfl, ?_, ?_⟩, fun h => by cases h⟩
    · show g < w.heap.size
      rcases Nat.lt_or_ge g w.heap.size with h | h
      · exact h
      · rw [Array.getElem?_eq_none h] at hh; cases hh
    · intro j u hu
      exact World.ownsRow.cells h (g := g) rfl j u hu
end
section
open Go.ChangeShapes Go.WideShapes Go.Deep
variable {H : Type} {enc : TypeId × Value → H} {P : Program} {w : World} {base : Nat} {spare : Nat → Bool} {held : Bool}
theorem open_slice_fields {t e : TypeId} {fs : Array Field} {fuel : Nat} {cs : List Value} {x : DataW H × List MemPlace} (ht : P.underlying t = some (.slice e)) (he : P.underlying e = some (.struct fs))
    (hone : oneCellFields P fs = true) (hC : P.cellsOf e = fs.size) (h : DataW.trod enc P w base spare held fuel t cs = some x) :
    (cs = [.slice none 0 0] ∧ x = (.nil, [])) ∨
    ∃ (a : Addr) (len cap m : Nat) (D : Nat → DataW H) (Pl : Nat → List MemPlace), cs = [.slice (some a) len cap] ∧ base ≤ a.block ∧ len ≤ cap ∧ cap ≤ maxLen ∧ m = (if spare a.block then cap else len) ∧
      x = (.slice ((List.range len).map D) ((List.range (m - len)).map fun j => D (len + j)), MemPlace.row a (m * fs.size) ++ (List.range m).flatMap Pl) ∧
      ∀ i, i < m → ∃ (ys : List (DataW H × List MemPlace)) (n : Nat), D i = .agg (ys.map (·.1)) ∧ Pl i = ys.flatMap (·.2) ∧ ys.length = fs.size ∧
        ∀ (j : Nat) (f : Field), fs[j]? = some f → ∃ (v : Value) (y : DataW H × List MemPlace), w.cell? (a.add (i * fs.size + j)) = some v ∧ ys[j]? = some y ∧ DataW.trod enc P w base spare held n f.type [v] = some y := by
  rcases open_slice ht h with h0 | ⟨a, len, cap, m, n, D, Pl, hcs, hb, hl, hm, hmm, hx, hi⟩
  · exact .inl h0
  · refine .inr ⟨a, len, cap, m, D, Pl, hcs, hb, hl, hm, hmm, by rw [hC] at hx; exact hx, fun i him => ?_⟩
    obtain ⟨cs', hc, ht'⟩ := hi i him
    rw [hC] at hc
    obtain ⟨ys, n', hn', hy, hlen, hyl, hf⟩ := DataW.trod_struct he ht'
    obtain ⟨_, hcl, hat⟩ := World.cells?_some hc
    simp only [Prod.mk.injEq] at hy
    refine ⟨ys, n', hy.1, hy.2, hyl, fun j f hj => ?_⟩
    obtain ⟨ho, hk⟩ := hone_of hone j f hj
    have hjl : j < fs.size := (Array.getElem?_eq_some_iff.1 hj).1
    have hcell := hat j hjl
    have hv : cs'[j]? = some (cs'[j]'(by omega)) := List.getElem?_eq_getElem (by omega)
    have h1 := hf j f hj
    rw [ho, hk] at h1
    have hone' : (cs'.drop j).take 1 = [cs'[j]'(by omega)] := by
      rw [List.drop_eq_getElem_cons (by omega)]
      rfl
    rw [hone'] at h1
    have hys : ys[j]? = some (ys[j]'(by omega)) := List.getElem?_eq_getElem (by omega)
    refine ⟨_, _, ?_, hys, h1.trans hys⟩
    rw [← Go.Deep.add_add, hcell, hv]
end
end Go.Proofs.YtmdpfikalekmlaaGreatDoor
