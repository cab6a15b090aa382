/- An append of a string as one step of a region that draws its order. -/
import Derived.Test.YtmdpfikalekmlaaGreatDoorSf
import Derived.Test.YtmdpfikalekmlaaGreatDoorOr
namespace Go.Proofs.YtmdpfikalekmlaaGreatDoor
open Go.RowKit Go.Lib
set_option maxRecDepth 100000

theorem OwnX.runStr {w : World} {B : Nat} {v : Value} {l : List UInt8} (h : OwnX w B v l) (s : ByteArray) (ty : TypeId) (hB : B ≤ w.heap.size) (hl : l.length + s.size ≤ 140737488355328) :
    ∃ v' w', (Builtin.append_ #[26, 9] ty #[v, .string s]).run Tryz.prog w = .ok v' w' ∧ OwnX w' B v' (l ++ s.data.toList) ∧ Below B w w' := by
  rcases h with h | h
  · obtain ⟨i0, hi, hz0, hz1, hz2⟩ := info_parts infoB
    have hlt := h.lt
    obtain ⟨v', w', h1, h2, h3, _⟩ := run_append_own_string (P := Tryz.prog) w B 26 9 ty 5 i0 Tryz.underlying26 Tryz.underlying9 hi hz0 hz1 hz2 v l.length (byteVals l) h s (by unfold maxLen; omega) (by omega) hB
    refine ⟨v', w', h1, Or.inl ?_, (Below.refl _ _).grown h3 hB (fun g hg => (hlt g hg).1)⟩
    unfold OwnB
    have e : (l ++ s.data.toList).length = l.length + s.size := by rw [List.length_append, Array.length_toList]; rfl
    rw [e, show byteVals (l ++ s.data.toList) = byteVals l ++ Lib.strCells s from by unfold byteVals Lib.strCells; rw [List.map_append]]
    exact h2
  · obtain ⟨i0, hi, hz0, hz1, hz2⟩ := info_parts infoB
    have hc := h
    obtain ⟨g, cap, cur, fz, rfl, hg, hh, hf, hn, hm, hcs, ht⟩ := h
    have hlt : g < w.heap.size := (Array.getElem?_eq_some_iff.1 hh).1
    have hsd : s.data.toList.length = s.size := rfl
    have hbs : byteVals s.data.toList = strCells s := rfl
    by_cases hroom : l.length + s.size ≤ cap
    · have hfi := run_firstCells_string (P := Tryz.prog) w 1 s
      have hst := storeCells_lo Tryz.prog g l.length 5 fz (strCells s) 0 cur w hh (by rw [strCells_length]; omega) (by rw [strCells_length]; omega) (strCells_oneCell s)
      have hr : (Builtin.append_ #[26, 9] ty #[.slice (some ⟨g, 0, none⟩) l.length cap, .string s]).run Tryz.prog w = .ok (.slice (some ⟨g, 0, none⟩) (l.length + s.size) cap) (w.setRow g (cur.toList.take l.length ++ strCells s ++ cur.toList.drop (l.length + (strCells s).length)).toArray) := by
        simp only [Nat.add_zero] at hst
        simp [Builtin.append_, run_underlying Tryz.underlying26, run_underlying Tryz.underlying9, sizeOf, typeInfo, hi, hz1, Builtin.lenOf, hroom, hfi, Addr.add_lit, hst]
      refine ⟨_, _, hr, Or.inr ?_, below_grown (setRow_grown _ _ _) hB hg⟩
      have := OwnS.filled (m := s.data.toList) hg hh hf (by rw [List.length_append, hsd]; exact hroom) hm hcs ht
      rw [List.length_append, hsd, hbs] at this
      exact this
    · have hr := run_append_grow_string (P := Tryz.prog) w 26 9 ty 5 i0 (.int .u8 0) Tryz.underlying26 Tryz.underlying9 hi hz0 ⟨g, 0, none⟩ l.length cap (byteVals l) (by rw [hz1, byteVals_length, Nat.mul_one]) (fun j u hu => by rw [Addr.add_lit, Nat.zero_add]; exact hc.cells j u hu) s (by omega) (by omega) (by rw [hz2]; exact growslice_fits (by omega) (by omega))
      refine ⟨_, _, hr, Or.inl ?_, (Below.refl _ _).drew.alloc hB _⟩
      have hge := grownCap_ge w (l.length + s.size) cap 5
      have hcm := grownCap_le_maxLen w (l.length + s.size) cap 5 (by unfold maxLen; omega)
      have e : (l ++ s.data.toList).length = l.length + s.size := by rw [List.length_append]; rfl
      unfold OwnB
      rw [e]
      refine ⟨by rw [byteVals_length, e, Nat.mul_one], .inr ⟨w.heap.size, _, _, rfl, hB, heap_alloc_new w.drew _, hge, hcm, ?_, ?_⟩⟩
      · have hz : (Value.int IntKind.u8 0).cells.size = 1 := rfl
        simp only [Array.size_append, List.size_toArray, size_zeroCells, hz, byteVals_length, strCells_length]
        omega
      · have e2 : (l.length + s.size) * 1 = (byteVals l ++ strCells s).length := by rw [List.length_append, byteVals_length, strCells_length]; omega
        simp only [Array.toList_append, List.append_assoc]
        rw [← List.append_assoc, e2, List.take_left]
        simp [byteVals, strCells]
theorem OwnX.stepStr {w : World} {B : Nat} {v : Value} {l : List UInt8} (h : OwnX w B v l) (s : ByteArray) {ops : Array Oper} {o : Oper} {a : Act} {K : Act → World → Prop} {Q : Exit → Act → World → Prop} {E : Prop} (hgd : o.guard = none) (sl y : Operand)
    (ho : o.op = .call { callee := .builtin .append, args := #[sl, y], argTypes := #[26, 9] }) (hs : a.eval sl = v) (hy : a.eval y = .string s) (hB : B ≤ w.heap.size) (hl : l.length + s.size ≤ 140737488355328)
    (k : ∀ v' w', OwnX w' B v' (l ++ s.data.toList) → Below B w w' → K (a.put o.dst v') w') :
    if Region.wanted o (yielded ops a.tmps) = true then Oper.wp Tryz.prog o a w K Q else E := by
  simp only [Region.wanted, hgd, if_true]
  obtain ⟨v', w', hr, h2, h3⟩ := h.runStr s o.type hB hl
  unfold Oper.wp execOp
  simp only [ho, resolve, invoke, builtin, Sem.run_bind, Sem.run_pure, Result.andThen_ok, List.map_toArray, List.map_cons, List.map_nil, hs, hy, hr]
  exact k _ _ h2 h3
end Go.Proofs.YtmdpfikalekmlaaGreatDoor
