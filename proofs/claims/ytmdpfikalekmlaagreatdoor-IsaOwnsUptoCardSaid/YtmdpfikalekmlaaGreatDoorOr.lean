/- An append as one step of a region that draws its order. -/
import Derived.Test.YtmdpfikalekmlaaGreatDoorOwn
import Derived.Test.YtmdpfikalekmlaaGreatDoorOwnL
import Derived.Deep.AppendLies
import Derived.Deep.RegionLaw
namespace Go.Proofs.YtmdpfikalekmlaaGreatDoor
open Go.RowKit
set_option maxRecDepth 100000

theorem OwnB.stepAppend {w : World} {B B2 : Nat} {v x : Value} {l m : List UInt8} (h : OwnB w B v l) (hx : OwnB w B2 x m) (hm0 : 0 < m.length) {ops : Array Oper} {o : Oper} {a : Act} {K : Act → World → Prop} {Q : Exit → Act → World → Prop} {E : Prop} (hgd : o.guard = none) (s y : Operand)
    (ho : o.op = .call { callee := .builtin .append, args := #[s, y], argTypes := #[26, 26] }) (hs : a.eval s = v) (hy : a.eval y = x) (hB : B ≤ w.heap.size) (hl : l.length + m.length ≤ 140737488355328)
    (k : ∀ v' w', OwnB w' B v' (l ++ m) → Below B w w' → K (a.put o.dst v') w') :
    if Region.wanted o (yielded ops a.tmps) = true then Oper.wp Tryz.prog o a w K Q else E := by
  obtain ⟨i0, hi, hz0, hz1, hz2⟩ := info_parts infoB
  have hlt := h.lt
  rcases hx.2 with ⟨rfl, h0⟩ | ⟨g, cap, cur, rfl, hg, hh, hn, hm, hcs, ht⟩
  · omega
  · refine step_append_lies w hgd s y 26 ho B 5 i0 (.int .u8 0) 1 1 Tryz.underlying26 hi hz0 hz1 hz2 rfl (by decide) v l.length (byteVals l) hs h ⟨g, 0, none⟩ m.length cap (byteVals m) hy (by rw [byteVals_length, Nat.mul_one]) ?_ ?_ hm0 ?_ ?_ hB w.heap.size rfl ?_
    · exact World.ownsRow.cells hx rfl
    · intro u hu
      obtain ⟨b, _, rfl⟩ := List.mem_map.1 hu
      rfl
    · unfold maxLen; omega
    · omega
    · intro g2 cap2 w' h2 h3 _ _
      refine k _ w' ?_ ?_
      · unfold OwnB
        rw [List.length_append, show byteVals (l ++ m) = byteVals l ++ byteVals m from List.map_append]
        exact h2
      · exact (Below.refl _ _).grown h3 hB (fun g hg => (hlt g hg).1)
/-- One element, made in the region, onto a list of the call's own. -/
theorem OwnL.stepAppend {α : Type} {S : Shape α} (hS : S.Ok) {w : World} {B : Nat} {v : Value} {l : List α} (h : OwnL S w B v l) (x : α) (nb : Nat) {ops : Array Oper} {o : Oper} {a : Act} {K : Act → World → Prop} {Q : Exit → Act → World → Prop} {E : Prop} (hgd : o.guard = none) (s y : Operand)
    (ho : o.op = .call { callee := .builtin .append, args := #[s, y], argTypes := #[S.tS, S.tS] }) (hs : a.eval s = v) (hy : a.eval y = .slice (some ⟨nb, 0, none⟩) 1 1) (hnb : ∀ j u, (S.enc x)[j]? = some u → w.cell? ⟨nb, j, none⟩ = some u) (hB : B ≤ w.heap.size) (hl : l.length + 1 ≤ 970000000000)
    (k : ∀ v' w', OwnL S w' B v' (l ++ [x]) → Below B w w' → KeptBut w w' v → K (a.put o.dst v') w') :
    if Region.wanted o (yielded ops a.tmps) = true then Oper.wp Tryz.prog o a w K Q else E := by
  obtain ⟨i0, hi, hz0, hz1, hz2⟩ := info_parts hS.info
  have hlt := h.lt
  refine step_append_lies w hgd s y S.tS ho B S.tE i0 S.zero S.size S.bytes hS.under hi hz0 hz1 hz2 hS.zs hS.pos v l.length (S.cells l) hs h ⟨nb, 0, none⟩ 1 1 (S.enc x) hy (by rw [hS.len, Nat.one_mul]) ?_ (hS.one x) (by decide) ?_ ?_ hB w.heap.size rfl ?_
  · intro j u hj
    rw [show (⟨nb, 0, none⟩ : Addr).add j = ⟨nb, j, none⟩ from by unfold Addr.add; split <;> simp_all]
    exact hnb j u hj
  · unfold maxLen; omega
  · have := hS.small
    have h2 := Nat.mul_le_mul hl this
    omega
  · intro g2 cap2 w' h2 h3 _ _
    refine k _ w' ?_ ?_ ?_
    · unfold OwnL
      rw [List.length_append, Shape.cells_append, show S.cells [x] = S.enc x from by simp [Shape.cells]]
      exact h2
    · exact (Below.refl _ _).grown h3 hB (fun g hg => (hlt g hg).1)
    · intro b hb hv
      exact h3.block b hb (fun e => hv e.symm)
end Go.Proofs.YtmdpfikalekmlaaGreatDoor
