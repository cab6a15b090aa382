/- Two slices of bytes that a call has made itself, side by side. -/
import Derived.Test.YtlgcofinmpckkaaDoorOwn
import Derived.Maps.AppendAt
namespace Go.Proofs.YtlgcofinmpckkaaDoor
open Go.RowKit

/-- Two slices lie in rows of their own. -/
def Apart (v u : Value) : Prop := ∀ g, v.ownBlock = some g → u.ownBlock ≠ some g
theorem Apart.symm {v u : Value} (h : Apart v u) : Apart u v := fun g hu hv => h g hv hu
theorem OwnB.kept {w w' : World} {B B2 : Nat} {v u : Value} {l m : List UInt8} (h : OwnB w B u m) (_ : OwnB w B2 v l) (ha : Apart v u) (hk : KeptBut w w' v) : OwnB w' B u m := by
  refine ⟨h.1, ?_⟩
  rcases h.2 with h2 | ⟨g, cap, cur, hv, hg, hh, r⟩
  · exact Or.inl h2
  · refine Or.inr ⟨g, cap, cur, hv, hg, ?_, r⟩
    have hlt : g < w.heap.size := by
      rcases Nat.lt_or_ge g w.heap.size with h | h
      · exact h
      · rw [Array.getElem?_eq_none h] at hh; cases hh
    rw [hk g hlt (fun e => ha g e (by rw [hv]; rfl))]
    exact hh
theorem OwnB.append2 {w : World} {B : Nat} {v u : Value} {l m : List UInt8} (h : OwnB w B v l) (hu : OwnB w B u m) (ha : Apart v u) (x : Int) (nb : Nat) {ops : Array Oper} {rest : List Oper} {o : Oper} {a : Act} {Q : Exit → Act → World → Prop} (hgd : o.guard = none) (s y : Operand)
    (ho : o.op = .call { callee := .builtin .append, args := #[s, y], argTypes := #[40, 40] }) (hs : a.eval s = v) (hy : a.eval y = .slice (some ⟨nb, 0, none⟩) 1 1) (hnb : nb = w.heap.size) (hx0 : 0 ≤ x) (hx1 : x ≤ 255) (hB : B ≤ w.heap.size) (hl : l.length + 1 ≤ 140737488355328)
    (k : ∀ v' w', OwnB w' B v' (l ++ [UInt8.ofNat x.toNat]) → OwnB w' B u m → Apart v' u → Below B w w' → wpList Tryd.prog ops Q rest (a.put o.dst v') w') :
    wpList Tryd.prog ops Q (o :: rest) a (w.alloc (.cells #[.int .u8 x] 5)) := by
  subst hnb
  obtain ⟨i0, hi, hz0, hz1, hz2⟩ := info_parts infoB
  have hlt := h.lt
  have hult := hu.lt
  refine wpList_append_own_at _ hgd s y 40 ho B 5 i0 (.int .u8 0) 1 1 Tryd.underlying40 hi hz0 hz1 hz2 rfl (by decide) v l.length (byteVals l) hs (World.ownsRow.alloc h _) ⟨w.heap.size, 0, none⟩ 1 1 [.int .u8 x] hy rfl ?_ ?_ ?_ ?_ ?_ ?_
  · intro j u hj
    cases j with
    | zero =>
      have : u = .int .u8 x := by simpa using hj.symm
      subst this
      exact World.cell?_alloc_new w _ _ 0
    | succ j => simp at hj
  · intro u hu
    have : u = .int .u8 x := by simpa using hu
    subst this; rfl
  · unfold maxLen; omega
  · omega
  · rw [World.size_alloc]; omega
  · intro v' w' h2 h3 _ h5
    refine k v' w' ?_ ?_ ?_ ?_
    · unfold OwnB
      have e : ((UInt8.ofNat x.toNat).toNat : Int) = x := by rw [UInt8.toNat_ofNat']; omega
      rw [byteVals_snoc, e, List.length_append, List.length_singleton]
      exact h2
    · refine OwnB.kept hu h ha (fun b hb hv => ?_)
      rw [h3.block b (by rw [World.size_alloc]; omega) (fun e => hv e.symm)]
      exact Below.heap_alloc w _ b hb
    · intro g hg hgu
      rcases h5 with h5 | h5
      · exact ha g (by rw [← h5]; exact hg) hgu
      · rw [h5] at hg
        have := (hult g hgu).2
        have e : (w.alloc (.cells #[.int .u8 x] 5)).heap.size = g := by simpa using hg
        rw [World.size_alloc] at e; omega
    · exact ((Below.refl _ _).alloc hB _).grown h3 (by rw [World.size_alloc]; omega) (fun g hg => (hlt g hg).1)
end Go.Proofs.YtlgcofinmpckkaaDoor
