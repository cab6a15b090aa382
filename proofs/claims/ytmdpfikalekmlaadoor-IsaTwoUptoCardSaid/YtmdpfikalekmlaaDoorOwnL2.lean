/- Appending a struct, with what stays. -/
import Derived.Test.YtmdpfikalekmlaaDoorOwnL
namespace Go.Proofs.YtmdpfikalekmlaaDoor
open Go.RowKit

theorem OwnL.ne_new {α : Type} {S : Shape α} {w : World} {B : Nat} {v : Value} {l : List α} (h : OwnL S w B v l) {b : Nat} (hb : w.heap.size ≤ b) : v.ownBlock ≠ some b := fun e => by have := (h.lt b e).2; omega
/-- 'append(l, x)', x just built; the new block's number may be spelled otherwise; every block but the list's own stays. -/
theorem OwnL.appendK {α : Type} {S : Shape α} (hS : S.Ok) {w : World} {B : Nat} {v : Value} {l : List α} (h : OwnL S w B v l) (x : α) (nb : Nat) {ops : Array Oper} {rest : List Oper} {o : Oper} {a : Act} {Q : Exit → Act → World → Prop} (hgd : o.guard = none) (s y : Operand)
    (ho : o.op = .call { callee := .builtin .append, args := #[s, y], argTypes := #[S.tS, S.tS] }) (hs : a.eval s = v) (hy : a.eval y = .slice (some ⟨nb, 0, none⟩) 1 1) (cs : Array Value) (hcs : cs = (S.enc x).toArray) (hnb : nb = w.heap.size) (hB : B ≤ w.heap.size) (hl : l.length + 1 ≤ 100000000000)
    (k : ∀ v' w', OwnL S w' B v' (l ++ [x]) → Below B w w' → KeptBut w w' v → wpList Tryd.prog ops Q rest (a.put o.dst v') w') :
    wpList Tryd.prog ops Q (o :: rest) a (w.alloc (.cells cs S.tE)) := by
  subst hcs
  subst hnb
  obtain ⟨i0, hi, hz0, hz1, hz2⟩ := info_parts hS.info
  have hlt := h.lt
  refine wpList_append_own _ hgd s y S.tS ho B S.tE i0 S.zero S.size S.bytes hS.under hi hz0 hz1 hz2 hS.zs hS.pos v l.length (S.cells l) hs (World.ownsRow.alloc h _) ⟨w.heap.size, 0, none⟩ 1 1 (S.enc x) hy (by rw [hS.len, Nat.one_mul]) ?_ (hS.one x) ?_ ?_ ?_ ?_
  · intro j u hj
    have e : (⟨w.heap.size, 0, none⟩ : Addr).add j = ⟨w.heap.size, j, none⟩ := by unfold Addr.add; split <;> simp_all
    rw [e, World.cell?_alloc_new]
    simpa using hj
  · unfold maxLen; omega
  · have := hS.small
    have h1 : (l.length + 1) * S.bytes ≤ 100000000000 * 1000 := Nat.mul_le_mul hl this
    omega
  · rw [World.size_alloc]; omega
  · intro v' w' h2 h3 _
    refine k v' w' ?_ ?_ ?_
    · unfold OwnL
      rw [Shape.cells_snoc, List.length_append, List.length_singleton]
      exact h2
    · exact ((Below.refl _ _).alloc hB _).grown h3 (by rw [World.size_alloc]; omega) (fun g hg => (hlt g hg).1)
    · intro b hb hv
      rw [h3.block b (by rw [World.size_alloc]; omega) (fun e => hv e.symm)]
      exact Below.heap_alloc w _ b hb
end Go.Proofs.YtmdpfikalekmlaaDoor
