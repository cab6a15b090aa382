/- A slice of structs that a call has made itself. -/
import Derived.Test.YtmdpfikalekmlaaGreatDoorOwn
namespace Go.Proofs.YtmdpfikalekmlaaGreatDoor
open Go.RowKit

/-- How values of a Lean type lie in cells: the slice's type, its element's type, the cells of an element, its bytes, its zero. -/
structure Shape (α : Type) where
  tS : TypeId
  tE : TypeId
  size : Nat
  bytes : Nat
  enc : α → List Value
  zero : Value
structure Shape.Ok {α : Type} (S : Shape α) : Prop where
  under : Tryz.prog.underlying S.tS = some (.slice S.tE)
  info : (Tryz.prog.info? S.tE).map (fun i => (i.zero, i.size, i.bytes)) = some (some S.zero, S.size, S.bytes)
  zs : S.zero.cells.size = S.size
  pos : 0 < S.size
  len : ∀ x, (S.enc x).length = S.size
  one : ∀ x, ∀ u ∈ S.enc x, u.oneCell' = true
  small : S.bytes ≤ 145

def Shape.cells {α : Type} (S : Shape α) (l : List α) : List Value := l.flatMap S.enc
theorem Shape.cells_snoc {α : Type} (S : Shape α) (l : List α) (x : α) : S.cells (l ++ [x]) = S.cells l ++ S.enc x := by simp [Shape.cells]
theorem Shape.cells_append {α : Type} (S : Shape α) (l m : List α) : S.cells (l ++ m) = S.cells l ++ S.cells m := by simp [Shape.cells]
theorem Shape.cells_length {α : Type} {S : Shape α} (h : S.Ok) (l : List α) : (S.cells l).length = l.length * S.size := by
  induction l with
  | nil => simp [Shape.cells]
  | cons x l ih =>
    have e : S.cells (x :: l) = S.enc x ++ S.cells l := by simp [Shape.cells]
    rw [e, List.length_append, h.len, ih, List.length_cons, Nat.add_mul, Nat.one_mul, Nat.add_comm]
/-- Cell j of element k. -/
theorem Shape.cells_get {α : Type} {S : Shape α} (h : S.Ok) (l : List α) (k j : Nat) (hk : k < l.length) (hj : j < S.size) : (S.cells l)[k * S.size + j]? = (S.enc l[k])[j]? := by
  induction l generalizing k with
  | nil => simp at hk
  | cons x l ih =>
    have e : S.cells (x :: l) = S.enc x ++ S.cells l := by simp [Shape.cells]
    rw [e]
    cases k with
    | zero => rw [Nat.zero_mul, Nat.zero_add, List.getElem?_append_left (by rw [h.len]; exact hj)]; rfl
    | succ k =>
      rw [List.getElem?_append_right (by rw [h.len, Nat.add_mul]; omega), h.len]
      have e2 : (k + 1) * S.size + j - S.size = k * S.size + j := by rw [Nat.add_mul]; omega
      rw [e2, ih k (by simpa using hk)]; rfl

/-- The slice v owns the list l, in a block from B on. -/
def OwnL {α : Type} (S : Shape α) (w : World) (B : Nat) (v : Value) (l : List α) : Prop := w.ownsRow B S.tE S.size v l.length (S.cells l)
section
variable {α : Type} {S : Shape α} {w w' : World} {B : Nat} {v : Value} {l : List α}
theorem OwnL.alloc (h : OwnL S w B v l) (o : Obj) : OwnL S (w.alloc o) B v l := World.ownsRow.alloc h o
theorem OwnL.drew (h : OwnL S w B v l) : OwnL S w.drew B v l := h
theorem OwnL.nil (S : Shape α) (w : World) (B : Nat) : OwnL S w B (.slice none 0 0) [] := World.ownsRow_nil w B S.tE S.size
theorem OwnL.lit0 (S : Shape α) (w : World) {B : Nat} (hB : B ≤ w.heap.size) : OwnL S (w.alloc (.cells #[] S.tE)) B (.slice (some ⟨w.heap.size, 0, none⟩) 0 0) [] :=
  World.ownsRow_lit w #[] 0 hB (by unfold maxLen; omega) (by simp)
theorem OwnL.below (h : OwnL S w B v l) (hb : Below w.heap.size w w') : OwnL S w' B v l := by
  refine ⟨h.1, ?_⟩
  rcases h.2 with h2 | ⟨g, cap, cur, hv, hg, hh, r⟩
  · exact Or.inl h2
  · refine Or.inr ⟨g, cap, cur, hv, hg, ?_, r⟩
    have hlt : g < w.heap.size := by
      rcases Nat.lt_or_ge g w.heap.size with h | h
      · exact h
      · rw [Array.getElem?_eq_none h] at hh; cases hh
    rw [hb.block g hlt]; exact hh
theorem OwnL.more {B2 : Nat} (h : OwnL S w B v l) (hB : B2 ≤ B) : OwnL S w B2 v l := by
  refine ⟨h.1, ?_⟩
  rcases h.2 with h2 | ⟨g, cap, cur, hv, hg, r⟩
  · exact Or.inl h2
  · exact Or.inr ⟨g, cap, cur, hv, Nat.le_trans hB hg, r⟩
/-- What the slice is; its cells. -/
theorem OwnL.open_ (h : OwnL S w B v l) : ∃ A cap, v = .slice A l.length cap ∧ l.length ≤ cap ∧ cap ≤ maxLen ∧
    (∀ k j, k < l.length → j < S.size → ∃ g, A = some ⟨g, 0, none⟩ ∧ B ≤ g ∧ g < w.heap.size ∧ ∀ u, (S.cells l)[k * S.size + j]? = some u → w.cell? ⟨g, k * S.size + j, none⟩ = some u) := by
  rcases h.2 with ⟨rfl, h0⟩ | ⟨g, cap, cur, rfl, hg, hh, hn, hm, hs, ht⟩
  · exact ⟨none, 0, by rw [h0], by omega, by unfold maxLen; omega, fun k j hk => by omega⟩
  · refine ⟨_, cap, rfl, hn, hm, fun k j hk hj => ⟨g, rfl, hg, ?_, fun u hu => ?_⟩⟩
    · rcases Nat.lt_or_ge g w.heap.size with h | h
      · exact h
      · rw [Array.getElem?_eq_none h] at hh; cases hh
    · have hlt : k * S.size + j < l.length * S.size := by
        have : (k + 1) * S.size ≤ l.length * S.size := Nat.mul_le_mul_right _ hk
        rw [Nat.add_mul] at this; omega
      rw [World.ownsRow.cellAt h _ hlt, hu]
end
/-- Element k: the address of the row, and its cells. -/
theorem OwnL.at_ {α : Type} {S : Shape α} {w : World} {B : Nat} {A : Option Addr} {n cap : Nat} {l : List α} (h : OwnL S w B (.slice A n cap) l) (hS : S.Ok) {k : Nat} (hk : k < l.length) :
    ∃ g, A = some ⟨g, 0, none⟩ ∧ ∀ j u, j < S.size → (S.enc l[k])[j]? = some u → w.cell? ⟨g, k * S.size + j, none⟩ = some u := by
  obtain ⟨A', cap', e, _, _, hc⟩ := h.open_
  injection e with e1 _ _
  subst e1
  obtain ⟨g, rfl, _, _, _⟩ := hc k 0 hk hS.pos
  refine ⟨g, rfl, fun j u hj hu => ?_⟩
  obtain ⟨g', e, _, _, h⟩ := hc k j hk hj
  cases e
  exact h u (by rw [Shape.cells_get hS l k j hk hj]; exact hu)
/-- 'append(l, x)', x a struct that has just been built. -/
theorem OwnL.append {α : Type} {S : Shape α} (hS : S.Ok) {w : World} {B : Nat} {v : Value} {l : List α} (h : OwnL S w B v l) (x : α) {ops : Array Oper} {rest : List Oper} {o : Oper} {a : Act} {Q : Exit → Act → World → Prop} (hgd : o.guard = none) (s y : Operand)
    (ho : o.op = .call { callee := .builtin .append, args := #[s, y], argTypes := #[S.tS, S.tS] }) (hs : a.eval s = v) (hy : a.eval y = .slice (some ⟨w.heap.size, 0, none⟩) 1 1) (cs : Array Value) (hcs : cs = (S.enc x).toArray) (hB : B ≤ w.heap.size) (hl : l.length + 1 ≤ 970000000000)
    (k : ∀ v' w', OwnL S w' B v' (l ++ [x]) → Below B w w' → wpList Tryz.prog ops Q rest (a.put o.dst v') w') :
    wpList Tryz.prog ops Q (o :: rest) a (w.alloc (.cells cs S.tE)) := by
  subst hcs
  obtain ⟨i0, hi, hz0, hz1, hz2⟩ := info_parts hS.info
  have hlt := h.lt
  refine wpList_append_own _ hgd s y S.tS ho B S.tE i0 S.zero S.size S.bytes hS.under hi hz0 hz1 hz2 hS.zs hS.pos v l.length (S.cells l) hs (World.ownsRow.alloc h _) ⟨w.heap.size, 0, none⟩ 1 1 (S.enc x) hy (by rw [hS.len, Nat.one_mul]) ?_ (hS.one x) ?_ ?_ ?_ ?_
  · intro j u hj
    have e : (⟨w.heap.size, 0, none⟩ : Addr).add j = ⟨w.heap.size, j, none⟩ := by unfold Addr.add; split <;> simp_all
    rw [e, World.cell?_alloc_new]
    simpa using hj
  · unfold maxLen; omega
  · have := hS.small
    have h1 : (l.length + 1) * S.bytes ≤ 970000000000 * 145 := Nat.mul_le_mul hl this
    omega
  · rw [World.size_alloc]; omega
  · intro v' w' h2 h3 _
    refine k v' w' ?_ ?_
    · unfold OwnL
      rw [Shape.cells_snoc, List.length_append, List.length_singleton]
      exact h2
    · exact ((Below.refl _ _).alloc hB _).grown h3 (by rw [World.size_alloc]; omega) (fun g hg => (hlt g hg).1)
theorem own_block {w : World} {base : Nat} {e : TypeId} {size n : Nat} {v : Value} {xs : List Value} (h : w.ownsRow base e size v n xs) {g : Nat} (hg : v.ownBlock = some g) : ∃ cur, w.heap[g]? = some (.cells cur e (0, 0)) := by
  rcases h.2 with ⟨rfl, _⟩ | ⟨g', cap, cur, rfl, _, hh, _⟩
  · simp [Value.ownBlock] at hg
  · have : g' = g := by simpa [Value.ownBlock] using hg
    subst this
    exact ⟨cur, hh⟩
/-- A row is not touched by what is written into a row of another type. -/
theorem OwnL.keptB {α : Type} {S : Shape α} {w w' : World} {B B2 : Nat} {v u : Value} {l : List α} {m : List UInt8} (h : OwnL S w B v l) (hu : OwnB w B2 u m) (hne : S.tE ≠ 5) (hk : KeptBut w w' u) : OwnL S w' B v l := by
  refine ⟨h.1, ?_⟩
  rcases h.2 with h2 | ⟨g, cap, cur, hv, hg, hh, r⟩
  · exact Or.inl h2
  · refine Or.inr ⟨g, cap, cur, hv, hg, ?_, r⟩
    have hlt : g < w.heap.size := by
      rcases Nat.lt_or_ge g w.heap.size with h | h
      · exact h
      · rw [Array.getElem?_eq_none h] at hh; cases hh
    rw [hk g hlt ?_]
    · exact hh
    · intro e
      obtain ⟨cur', he⟩ := own_block hu e
      rw [hh] at he
      injection he with he
      injection he with _ ht
      exact hne ht
end Go.Proofs.YtmdpfikalekmlaaGreatDoor
/- Appending a struct, with what stays. -/
namespace Go.Proofs.YtmdpfikalekmlaaGreatDoor
open Go.RowKit

theorem OwnL.ne_new {α : Type} {S : Shape α} {w : World} {B : Nat} {v : Value} {l : List α} (h : OwnL S w B v l) {b : Nat} (hb : w.heap.size ≤ b) : v.ownBlock ≠ some b := fun e => by have := (h.lt b e).2; omega
/-- 'append(l, x)', x just built; the new block's number may be spelled otherwise; every block but the list's own stays. -/
theorem OwnL.appendK {α : Type} {S : Shape α} (hS : S.Ok) {w : World} {B : Nat} {v : Value} {l : List α} (h : OwnL S w B v l) (x : α) (nb : Nat) {ops : Array Oper} {rest : List Oper} {o : Oper} {a : Act} {Q : Exit → Act → World → Prop} (hgd : o.guard = none) (s y : Operand)
    (ho : o.op = .call { callee := .builtin .append, args := #[s, y], argTypes := #[S.tS, S.tS] }) (hs : a.eval s = v) (hy : a.eval y = .slice (some ⟨nb, 0, none⟩) 1 1) (cs : Array Value) (hcs : cs = (S.enc x).toArray) (hnb : nb = w.heap.size) (hB : B ≤ w.heap.size) (hl : l.length + 1 ≤ 970000000000)
    (k : ∀ v' w', OwnL S w' B v' (l ++ [x]) → Below B w w' → KeptBut w w' v → wpList Tryz.prog ops Q rest (a.put o.dst v') w') :
    wpList Tryz.prog ops Q (o :: rest) a (w.alloc (.cells cs S.tE)) := by
  subst hcs
  subst hnb
  obtain ⟨i0, hi, hz0, hz1, hz2⟩ := info_parts hS.info
  have hlt := h.lt
  refine wpList_append_own _ hgd s y S.tS ho B S.tE i0 S.zero S.size S.bytes hS.under hi hz0 hz1 hz2 hS.zs hS.pos v l.length (S.cells l) hs (World.ownsRow.alloc h _) ⟨w.heap.size, 0, none⟩ 1 1 (S.enc x) hy (by rw [hS.len, Nat.one_mul]) ?_ (hS.one x) ?_ ?_ ?_ ?_
  · intro j u hj
    have e : (⟨w.heap.size, 0, none⟩ : Addr).add j = ⟨w.heap.size, j, none⟩ := by unfold Addr.add; split <;> simp_all
    rw [e, World.cell?_alloc_new]
    simpa using hj
  · unfold maxLen; omega
  · have := hS.small
    have h1 : (l.length + 1) * S.bytes ≤ 970000000000 * 145 := Nat.mul_le_mul hl this
    omega
  · rw [World.size_alloc]; omega
  · intro v' w' h2 h3 _
    refine k v' w' ?_ ?_ ?_
    · unfold OwnL
      rw [Shape.cells_snoc, List.length_append, List.length_singleton]
      exact h2
    · exact ((Below.refl _ _).alloc hB _).grown h3 (by rw [World.size_alloc]; omega) (fun g hg => (hlt g hg).1)
    · intro b hb hv
      rw [h3.block b (by rw [World.size_alloc]; omega) (fun e => hv e.symm)]
      exact Below.heap_alloc w _ b hb
end Go.Proofs.YtmdpfikalekmlaaGreatDoor
