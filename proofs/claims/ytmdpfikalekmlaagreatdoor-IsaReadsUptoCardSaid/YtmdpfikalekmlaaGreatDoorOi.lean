/- Layer 20: instructions that come in. -/
import Derived.Test.YtmdpfikalekmlaaGreatDoorBulk
import Derived.Test.YtmdpfikalekmlaaGreatDoorIf
import Derived.Test.YtmdpfikalekmlaaGreatDoorStr
namespace Go.Proofs.YtmdpfikalekmlaaGreatDoor
open Go.RowKit Go.ChangeShapes Go.WideShapes Go.Deep
set_option maxRecDepth 100000

theorem inOne : oneCellFields Tryz.prog (Tryz.prog.fieldsOf 43) = true := by kernel_rfl
theorem inCells : Tryz.prog.cellsOf 43 = (Tryz.prog.fieldsOf 43).size := by kernel_rfl
theorem inSize : (Tryz.prog.fieldsOf 43).size = 3 := by kernel_rfl
theorem inStruct : Tryz.prog.underlying 43 = some (.struct (Tryz.prog.fieldsOf 43)) := by kernel_rfl
theorem inTypes : ((Tryz.prog.fieldsOf 43).map (·.type)).toList = [3, 41, 41] := by kernel_rfl
theorem in_type (j : Nat) (t : TypeId) (h : [3, 41, 41][j]? = some t) : ∃ f, (Tryz.prog.fieldsOf 43)[j]? = some f ∧ f.type = t := by
  rw [← inTypes, Array.getElem?_toList, Array.getElem?_map] at h
  obtain ⟨f, h1, h2⟩ := Option.map_eq_some_iff.1 h
  exact ⟨f, h1, h2⟩
theorem u64_nat {n : Int} (h : (Lit.int .u64 n).wf = true) : ∃ k : Nat, n = (k : Int) ∧ k < 18446744073709551616 := by
  have h2 : 0 ≤ n ∧ n < 18446744073709551616 := by
    have := h
    simp [Lit.wf] at this
    have e1 : IntKind.u64.min = 0 := rfl
    have e2 : IntKind.u64.max = 18446744073709551615 := rfl
    omega
  exact ⟨n.toNat, by omega, by omega⟩
theorem open_instrs {H : Type} {enc : TypeId × Value → H} {W : World} {v : Value} {d : DataW H} {p : List MemPlace} (hv : Value.okWide Tryz.prog W .any 0 38 v) (h0 : DataW.Trod enc Tryz.prog W 0 (fun _ => true) true 38 v d p) :
    ∃ (l : List Ins), RdL insS W W.heap.size v l ∧ SmallIns l ∧ l.length ≤ Rows.uptoBulk d := by
  obtain ⟨fuel, h⟩ := h0
  have hlt := DataW.trod_lt fuel _ _ _ h
  rcases open_slice_fields Tryz.underlying38 inStruct inOne inCells h with ⟨hc, hx⟩ | ⟨a, len, cap, m, D, Pl, hc, _, hl, hm, hmm, hx, hf⟩
  · have := slice_of_ok Tryz.underlying38 hv hc
    subst this
    exact ⟨[], RdL.nil _ _ _, (fun _ h => absurd h List.not_mem_nil), by simp⟩
  · rw [if_pos rfl] at hmm
    obtain rfl : cap = m := hmm.symm
    have := slice_of_ok Tryz.underlying38 hv hc
    subst this
    simp only [Prod.mk.injEq] at hx
    obtain ⟨hd, hp⟩ := hx
    by_cases h0 : len = 0
    · subst h0
      exact ⟨[], ⟨some a, cap, rfl, hl, hm, fun h => (by simp at h), fun h => by cases h⟩, (fun _ h => absurd h List.not_mem_nil), by simp⟩
    have hblk : a.block < W.heap.size := hlt (.cell a.block a.off) (by
      show MemPlace.cell a.block a.off ∈ p
      rw [hp]
      simp only [List.mem_append]
      left
      have : 0 < cap * (Tryz.prog.fieldsOf 43).size := Nat.mul_pos (by omega) (by rw [inSize]; decide)
      simp only [MemPlace.row, List.mem_map, List.mem_range]
      exact ⟨0, this, rfl⟩)
    obtain ⟨l, h1, h2, h3⟩ := RdL.of_cells (S := insS) insSOk (w := W) (B := W.heap.size) (a := a) (len := len) (cap := cap) hblk hl hm (fun i f => f.a < 18446744073709551616 ∧ f.b < 18446744073709551616) (by
      intro i hi
      obtain ⟨ys, n, hD, _, hyl, hfl⟩ := hf i (by omega)
      rw [inSize] at hfl hyl
      obtain ⟨f0, g0, t0⟩ := in_type 0 _ rfl
      obtain ⟨f1, g1, t1⟩ := in_type 1 _ rfl
      obtain ⟨f2, g2, t2⟩ := in_type 2 _ rfl
      obtain ⟨v0, y0, c0, hy0, r0⟩ := hfl 0 f0 g0
      obtain ⟨v1, y1, c1, hy1, r1⟩ := hfl 1 f1 g1
      obtain ⟨v2, y2, c2, hy2, r2⟩ := hfl 2 f2 g2
      rw [t0] at r0; rw [t1] at r1; rw [t2] at r2
      obtain ⟨o, e0, rfl, ho⟩ := DataW.trod_int Tryz.underlying3 r0
      obtain ⟨x, e1, rfl, hx⟩ := DataW.trod_int Tryz.underlying41 r1
      obtain ⟨y, e2, rfl, hy⟩ := DataW.trod_int Tryz.underlying41 r2
      cases e0; cases e1; cases e2
      obtain ⟨xa, rfl, hxa⟩ := u64_nat hx
      obtain ⟨xb, rfl, hxb⟩ := u64_nat hy
      refine ⟨⟨o, xa, xb⟩, ⟨hxa, hxb⟩, fun j u hj hu => ?_⟩
      match j, hj, hu with
      | 0, _, hu => cases hu; exact c0
      | 1, _, hu => cases hu; exact c1
      | 2, _, hu => cases hu; exact c2)
    refine ⟨l, h2, ?_, ?_⟩
    · intro f hf
      obtain ⟨i, hi, rfl⟩ := List.getElem_of_mem hf
      exact h3 i hi
    · have e := bulk_len ((List.range len).map D)
      have := bulk_slice ((List.range len).map D) ((List.range (cap - len)).map fun j => D (len + j))
      rw [List.length_map, List.length_range] at e
      rw [hd]
      exact Nat.le_trans (show l.length ≤ Rows.uptoBulkAll ((List.range len).map D) + 1 by omega) this
end Go.Proofs.YtmdpfikalekmlaaGreatDoor
