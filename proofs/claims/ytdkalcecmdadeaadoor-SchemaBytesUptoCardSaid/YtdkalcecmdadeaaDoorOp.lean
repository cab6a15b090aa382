/- Layer 4: a schema that comes in. -/
import Derived.Test.YtdkalcecmdadeaaDoorBulk
import Derived.Test.YtdkalcecmdadeaaDoorChk
namespace Go.Proofs.YtdkalcecmdadeaaDoor
open Go.RowKit Go.ChangeShapes Go.WideShapes Go.Deep
set_option maxRecDepth 100000

theorem fdOne : oneCellFields Tryd.prog (Tryd.prog.fieldsOf 34) = true := by kernel_rfl
theorem fdCells : Tryd.prog.cellsOf 34 = (Tryd.prog.fieldsOf 34).size := by kernel_rfl
theorem fdSize : (Tryd.prog.fieldsOf 34).size = 5 := by kernel_rfl
theorem fdStruct : Tryd.prog.underlying 34 = some (.struct (Tryd.prog.fieldsOf 34)) := by kernel_rfl
theorem fdTypes : ((Tryd.prog.fieldsOf 34).map (·.type)).toList = [9, 3, 4, 4, 4] := by kernel_rfl
theorem fd_type (j : Nat) (t : TypeId) (h : [9, 3, 4, 4, 4][j]? = some t) : ∃ f, (Tryd.prog.fieldsOf 34)[j]? = some f ∧ f.type = t := by
  rw [← fdTypes, Array.getElem?_toList, Array.getElem?_map] at h
  obtain ⟨f, h1, h2⟩ := Option.map_eq_some_iff.1 h
  exact ⟨f, h1, h2⟩
theorem open_fields {H : Type} {enc : TypeId × Value → H} {W : World} {held : Bool} {fuel : Nat} {cs : List Value} {x : DataW H × List MemPlace} (h : DataW.trod enc Tryd.prog W 0 (fun _ => true) held fuel 22 cs = some x) :
    ∃ (v : Value) (l : List Fd), cs = [v] ∧ RdL fdS W W.heap.size v l ∧ SmallNames l ∧ l.length ≤ Rows.uptoBulk x.1 ∧ ∀ f ∈ l, f.name.size ≤ Rows.uptoBulk x.1 := by
  have hlt := DataW.trod_lt fuel _ _ _ h
  rcases open_slice_fields Tryd.underlying22 fdStruct fdOne fdCells h with ⟨rfl, rfl⟩ | ⟨a, len, cap, m, D, Pl, rfl, _, hl, hm, hmm, rfl, hf⟩
  · exact ⟨_, [], rfl, RdL.nil _ _ _, fun _ h => (by cases h), by simp, fun _ h => (by cases h)⟩
  · rw [if_pos rfl] at hmm
    obtain rfl : cap = m := hmm.symm
    by_cases h0 : len = 0
    · subst h0
      refine ⟨_, [], rfl, ⟨some a, cap, rfl, hl, hm, fun h => (by simp at h), fun h => by cases h⟩, fun _ h => (by cases h), by simp, fun _ h => (by cases h)⟩
    have hblk : a.block < W.heap.size := hlt (.cell a.block a.off) (by
      simp only [List.mem_append]
      left
      have : 0 < cap * (Tryd.prog.fieldsOf 34).size := Nat.mul_pos (by omega) (by rw [fdSize]; decide)
      simp only [MemPlace.row, List.mem_map, List.mem_range]
      exact ⟨0, this, rfl⟩)
    obtain ⟨l, h1, h2, h3⟩ := RdL.of_cells (S := fdS) fdOk (w := W) (B := W.heap.size) (a := a) (len := len) (cap := cap) hblk hl hm (fun i f => f.name.size ≤ maxLen ∧ f.name.size ≤ Rows.uptoBulk (D i)) (by
      intro i hi
      obtain ⟨ys, n, hD, _, hyl, hfl⟩ := hf i (by omega)
      rw [fdSize] at hfl hyl
      obtain ⟨f0, g0, t0⟩ := fd_type 0 _ rfl
      obtain ⟨f1, g1, t1⟩ := fd_type 1 _ rfl
      obtain ⟨f2, g2, t2⟩ := fd_type 2 _ rfl
      obtain ⟨f3, g3, t3⟩ := fd_type 3 _ rfl
      obtain ⟨f4, g4, t4⟩ := fd_type 4 _ rfl
      obtain ⟨v0, y0, c0, hy0, r0⟩ := hfl 0 f0 g0
      obtain ⟨v1, y1, c1, hy1, r1⟩ := hfl 1 f1 g1
      obtain ⟨v2, y2, c2, hy2, r2⟩ := hfl 2 f2 g2
      obtain ⟨v3, y3, c3, hy3, r3⟩ := hfl 3 f3 g3
      obtain ⟨v4, y4, c4, hy4, r4⟩ := hfl 4 f4 g4
      rw [t0] at r0; rw [t1] at r1; rw [t2] at r2; rw [t3] at r3; rw [t4] at r4
      obtain ⟨s, e0, rfl, hs⟩ := DataW.trod_string Tryd.underlying9 r0
      obtain ⟨k, e1, rfl, _⟩ := DataW.trod_int Tryd.underlying3 r1
      obtain ⟨b2, e2, rfl⟩ := DataW.trod_bool Tryd.underlying4 r2
      obtain ⟨b3, e3, rfl⟩ := DataW.trod_bool Tryd.underlying4 r3
      obtain ⟨b4, e4, rfl⟩ := DataW.trod_bool Tryd.underlying4 r4
      cases e0; cases e1; cases e2; cases e3; cases e4
      refine ⟨⟨s, k, b2, b3, b4⟩, ⟨hs, ?_⟩, fun j u hj hu => ?_⟩
      · rw [hD, bulk_agg]
        have hmem : (.lit (.string s.data.toList) : DataW H) ∈ ys.map (·.1) := List.mem_map.2 ⟨_, List.mem_of_getElem? hy0, rfl⟩
        have := bulk_mem hmem
        rw [bulk_string, ← ba_size] at this
        show s.size ≤ _
        omega
      · match j, hj, hu with
        | 0, _, hu => cases hu; exact c0
        | 1, _, hu => cases hu; exact c1
        | 2, _, hu => cases hu; exact c2
        | 3, _, hu => cases hu; exact c3
        | 4, _, hu => cases hu; exact c4)
    refine ⟨_, l, rfl, h2, ?_, ?_, ?_⟩
    · intro f hf
      obtain ⟨i, hi, rfl⟩ := List.getElem_of_mem hf
      exact (h3 i hi).1
    · have e := bulk_len ((List.range len).map D)
      have := bulk_slice ((List.range len).map D) ((List.range (cap - len)).map fun j => D (len + j))
      rw [List.length_map, List.length_range] at e
      exact Nat.le_trans (show l.length ≤ Rows.uptoBulkAll ((List.range len).map D) + 1 by omega) this
    · intro f hf
      obtain ⟨i, hi, rfl⟩ := List.getElem_of_mem hf
      have h4 := (h3 i hi).2
      have h5 : Rows.uptoBulk (D i) ≤ Rows.uptoBulkAll ((List.range len).map D) := bulk_mem (List.mem_map.2 ⟨i, List.mem_range.2 (by omega), rfl⟩)
      have := bulk_slice ((List.range len).map D) ((List.range (cap - len)).map fun j => D (len + j))
      exact Nat.le_trans (show l[i].name.size ≤ Rows.uptoBulkAll ((List.range len).map D) + 1 by omega) this
theorem open_schema {H : Type} {enc : TypeId × Value → H} {W : World} {v : Value} {d : DataW H} {p : List MemPlace} (hv : Value.okWide Tryd.prog W .any 0 24 v) (h : DataW.Trod enc Tryd.prog W 0 (fun _ => true) true 24 v d p) :
    ∃ (fs : Value) (l : List Fd), v = .agg #[fs] ∧ RdL fdS W W.heap.size fs l ∧ SmallNames l ∧ l.length ≤ Rows.uptoBulk d ∧ ∀ f ∈ l, f.name.size ≤ Rows.uptoBulk d := by
  obtain ⟨cs, rfl, hsz⟩ := okWide_struct Tryd.underlying24 hv
  rw [show Tryd.prog.cellsOf 24 = 1 from by kernel_rfl] at hsz
  obtain ⟨l0⟩ := cs
  match l0, hsz with
  | [c0], _ =>
    obtain ⟨fuel, hf⟩ := h
    obtain ⟨y0, n, hx, hl, hy⟩ := trod_struct1 Tryd.underlying24 hf
    simp only [Prod.mk.injEq] at hx
    have e : (Value.agg #[c0]).cells.toList = [c0] := rfl
    have hy' : DataW.trod enc Tryd.prog W 0 (fun _ => true) true n 22 [c0] = some y0 := by
      have h1 : Tryd.prog.cellsOf 22 = 1 := by kernel_rfl
      simpa [h1, Value.cells] using hy
    obtain ⟨v, l, h1, h2, h3, h4, h5⟩ := open_fields hy'
    cases h1
    have hb : Rows.uptoBulk y0.1 ≤ Rows.uptoBulk d := by
      rw [hx.1, bulk_agg, Rows.uptoBulkAll, Rows.uptoBulkAll]; omega
    exact ⟨c0, l, rfl, h2, h3, Nat.le_trans h4 hb, fun f hf => Nat.le_trans (h5 f hf) hb⟩
end Go.Proofs.YtdkalcecmdadeaaDoor
