/- Layer 20: a program that comes in. -/
import Derived.Test.YtmdpfikalekmlaaGreatDoorOb
import Derived.Test.YtmdpfikalekmlaaGreatDoorOi
import Derived.Test.YtmdpfikalekmlaaGreatDoorLd
namespace Go.Proofs.YtmdpfikalekmlaaGreatDoor
open Go.RowKit Go.ChangeShapes Go.WideShapes Go.Deep
set_option maxRecDepth 100000

section
variable {H : Type} {enc : TypeId × Value → H} {W : World}
theorem open_cells1c {α : Type} {S : Shape α} (hS : S.Ok) (h1 : S.size = 1) (hC : Tryz.prog.cellsOf S.tE = 1) (Q : α → Prop)
    (hx : ∀ (n : Nat) (cs : List Value) (D : DataW H) (ps : List MemPlace), DataW.trod enc Tryz.prog W 0 (fun _ => true) true n S.tE cs = some (D, ps) → ∃ x c, cs = [c] ∧ S.enc x = [c] ∧ Q x)
    {fuel : Nat} {cs : List Value} {x : DataW H × List MemPlace} (h : DataW.trod enc Tryz.prog W 0 (fun _ => true) true fuel S.tS cs = some x) :
    ∃ A n c, ∃ (l : List α), cs = [.slice A n c] ∧ n = l.length ∧ RdL S W W.heap.size (.slice A n c) l ∧ l.length ≤ Rows.uptoBulk x.1 ∧ ∀ x ∈ l, Q x := by
  have hlt := DataW.trod_lt fuel _ _ _ h
  rcases open_slice hS.under h with ⟨hc, hx0⟩ | ⟨a, len, cap, m, n, D, Pl, hc, _, hl, hm, hmm, hx0, hf⟩
  · exact ⟨_, _, _, [], hc, rfl, RdL.nil _ _ _, Nat.zero_le _, fun _ h => absurd h List.not_mem_nil⟩
  · rw [if_pos rfl] at hmm
    obtain rfl : cap = m := hmm.symm
    subst hx0
    by_cases h0 : len = 0
    · subst h0
      exact ⟨_, _, _, [], hc, rfl, ⟨some a, cap, rfl, hl, hm, fun h => (by simp at h), fun h => by cases h⟩, Nat.zero_le _, fun _ h => absurd h List.not_mem_nil⟩
    have hblk : a.block < W.heap.size := hlt (.cell a.block a.off) (by
      simp only [List.mem_append]
      left
      simp only [MemPlace.row, List.mem_map, List.mem_range]
      exact ⟨0, by rw [hC]; omega, rfl⟩)
    obtain ⟨l, hl1, h2, h3⟩ := RdL.of_cells hS (w := W) (B := W.heap.size) (a := a) (len := len) (cap := cap) hblk hl hm (fun i x => Q x) (by
      intro i hi
      obtain ⟨cs', hcs, ht⟩ := hf i (by omega)
      obtain ⟨x, c, rfl, he, hq⟩ := hx _ _ _ _ ht
      refine ⟨x, hq, fun j u hj hu => ?_⟩
      rw [he] at hu
      rw [h1] at hj ⊢
      obtain rfl : j = 0 := by omega
      simp only [List.getElem?_cons_zero, Option.some.injEq] at hu
      subst hu
      rw [hC] at hcs
      have := cell_of_cells?_one hcs
      rw [Nat.mul_one] at this ⊢
      exact this)
    refine ⟨_, _, _, l, hc, hl1.symm, h2, ?_, ?_⟩
    · have e := bulk_len ((List.range len).map D)
      have := bulk_slice ((List.range len).map D) ((List.range (cap - len)).map fun j => D (len + j))
      rw [List.length_map, List.length_range] at e
      rw [hl1]
      exact Nat.le_trans (show len ≤ Rows.uptoBulkAll ((List.range len).map D) + 1 by omega) this
    · intro x hx
      obtain ⟨i, hi, rfl⟩ := List.getElem_of_mem hx
      exact h3 i hi
theorem wf_i64 {m : Int} (h : (Lit.int .i64 m).wf = true) : -9223372036854775808 ≤ m ∧ m ≤ 9223372036854775807 := by
  have e1 : IntKind.i64.min = -9223372036854775808 := rfl
  have e2 : IntKind.i64.max = 9223372036854775807 := rfl
  simp [Lit.wf] at h
  omega
theorem open_ints_c {fuel : Nat} {cs : List Value} {x : DataW H × List MemPlace} (h : DataW.trod enc Tryz.prog W 0 (fun _ => true) true fuel 23 cs = some x) :
    ∃ A n c, ∃ (l : List Int), cs = [.slice A n c] ∧ n = l.length ∧ RdL intS W W.heap.size (.slice A n c) l ∧ l.length ≤ Rows.uptoBulk x.1 ∧ SmallInts l :=
  open_cells1c (S := intS) intSOk rfl (by kernel_rfl) (fun m => -9223372036854775808 ≤ m ∧ m ≤ 9223372036854775807) (fun n cs D ps ht => by
    obtain ⟨m, hc, hd, hw⟩ := DataW.trod_int Tryz.underlying3 ht
    exact ⟨m, .int .i64 m, hc, rfl, wf_i64 hw⟩) h
theorem open_bytes_c {fuel : Nat} {cs : List Value} {x : DataW H × List MemPlace} (h : DataW.trod enc Tryz.prog W 0 (fun _ => true) true fuel 26 cs = some x) :
    ∃ A n c, ∃ (l : List UInt8), cs = [.slice A n c] ∧ n = l.length ∧ RdL byteS W W.heap.size (.slice A n c) l ∧ l.length ≤ Rows.uptoBulk x.1 := by
  obtain ⟨A, n, c, l, h1, h2, h3, h4, _⟩ := open_cells1c (S := byteS) byteOk rfl (by kernel_rfl) (fun _ => True) (fun n cs D ps ht => by
    obtain ⟨m, hc, hd, hw⟩ := DataW.trod_int Tryz.underlying5 ht
    have hw2 : (0 : Int) ≤ m ∧ m < 256 := by
      have e1 : IntKind.u8.min = 0 := by rfl
      have e2 : IntKind.u8.max = 255 := by rfl
      simp only [Lit.wf] at hw
      simp at hw
      omega
    refine ⟨UInt8.ofNat m.toNat, .int .u8 m, hc, ?_, trivial⟩
    show [Value.int .u8 ((UInt8.ofNat m.toNat).toNat : Int)] = [.int .u8 m]
    have : ((UInt8.ofNat m.toNat).toNat : Int) = m := by rw [UInt8.toNat_ofNat']; omega
    rw [this]) h
  exact ⟨A, n, c, l, h1, h2, h3, h4⟩
theorem sum_bulk {α : Type} (f : α → Nat) : ∀ (l : List α) (D : Nat → DataW H), (∀ i (hi : i < l.length), f l[i] ≤ Rows.uptoBulk (D i)) → (l.map f).sum ≤ Rows.uptoBulkAll ((List.range l.length).map D)
  | [], D, h => by simp
  | a :: l, D, h => by
    have ih := sum_bulk f l (fun i => D (i + 1)) (fun i hi => h (i + 1) (by simp only [List.length_cons]; omega))
    have h0 := h 0 (by simp)
    simp only [List.getElem_cons_zero] at h0
    rw [List.map_cons, List.sum_cons, List.length_cons, List.range_succ_eq_map, List.map_cons, Rows.uptoBulkAll, List.map_map]
    exact Nat.add_le_add h0 ih
theorem lfOne : oneCellFields Tryz.prog (Tryz.prog.fieldsOf 66) = true := by kernel_rfl
theorem lfCells : Tryz.prog.cellsOf 66 = (Tryz.prog.fieldsOf 66).size := by kernel_rfl
theorem lfSize : (Tryz.prog.fieldsOf 66).size = 2 := by kernel_rfl
theorem lfStruct : Tryz.prog.underlying 66 = some (.struct (Tryz.prog.fieldsOf 66)) := by kernel_rfl
theorem lfTypes : ((Tryz.prog.fieldsOf 66).map (·.type)).toList = [3, 9] := by kernel_rfl
theorem lf_type (j : Nat) (t : TypeId) (h : [3, 9][j]? = some t) : ∃ f, (Tryz.prog.fieldsOf 66)[j]? = some f ∧ f.type = t := by
  rw [← lfTypes, Array.getElem?_toList, Array.getElem?_map] at h
  obtain ⟨f, h1, h2⟩ := Option.map_eq_some_iff.1 h
  exact ⟨f, h1, h2⟩
theorem nrOne : oneCellFields Tryz.prog (Tryz.prog.fieldsOf 68) = true := by kernel_rfl
theorem nrCells : Tryz.prog.cellsOf 68 = (Tryz.prog.fieldsOf 68).size := by kernel_rfl
theorem nrSize : (Tryz.prog.fieldsOf 68).size = 3 := by kernel_rfl
theorem nrStruct : Tryz.prog.underlying 68 = some (.struct (Tryz.prog.fieldsOf 68)) := by kernel_rfl
theorem nrTypes : ((Tryz.prog.fieldsOf 68).map (·.type)).toList = [23, 23, 3] := by kernel_rfl
theorem nr_type (j : Nat) (t : TypeId) (h : [23, 23, 3][j]? = some t) : ∃ f, (Tryz.prog.fieldsOf 68)[j]? = some f ∧ f.type = t := by
  rw [← nrTypes, Array.getElem?_toList, Array.getElem?_map] at h
  obtain ⟨f, h1, h2⟩ := Option.map_eq_some_iff.1 h
  exact ⟨f, h1, h2⟩
theorem open_lf_c {fuel : Nat} {cs : List Value} {x : DataW H × List MemPlace} (h : DataW.trod enc Tryz.prog W 0 (fun _ => true) true fuel 24 cs = some x) :
    ∃ A n c, ∃ (l : List Lf), cs = [.slice A n c] ∧ n = l.length ∧ RdL lfS W W.heap.size (.slice A n c) l ∧ l.length ≤ Rows.uptoBulk x.1 ∧ (∀ f ∈ l, ((-9223372036854775808 ≤ f.field ∧ f.field ≤ 9223372036854775807) ∧ f.term.length ≤ (Rows.uptoBulk x.1))) ∧ (l.map fun f => f.term.length).sum ≤ Rows.uptoBulk x.1 := by
  have hlt := DataW.trod_lt fuel _ _ _ h
  rcases open_slice_fields Tryz.underlying24 lfStruct lfOne lfCells h with ⟨rfl, rfl⟩ | ⟨a, len, cap, m, D, Pl, rfl, _, hl, hm, hmm, rfl, hf⟩
  · exact ⟨_, _, _, [], rfl, rfl, RdL.nil _ _ _, Nat.zero_le _, fun _ h => absurd h List.not_mem_nil, Nat.zero_le _⟩
  · rw [if_pos rfl] at hmm
    obtain rfl : cap = m := hmm.symm
    by_cases h0 : len = 0
    · subst h0
      exact ⟨_, _, _, [], rfl, rfl, ⟨some a, cap, rfl, hl, hm, fun h => (by simp at h), fun h => by cases h⟩, Nat.zero_le _, fun _ h => absurd h List.not_mem_nil, Nat.zero_le _⟩
    have hblk : a.block < W.heap.size := hlt (.cell a.block a.off) (by
      simp only [List.mem_append]
      left
      have : 0 < cap * (Tryz.prog.fieldsOf 66).size := Nat.mul_pos (by omega) (by rw [lfSize]; decide)
      simp only [MemPlace.row, List.mem_map, List.mem_range]
      exact ⟨0, this, rfl⟩)
    obtain ⟨l, h1, h2, h3⟩ := RdL.of_cells (S := lfS) lfSOk (w := W) (B := W.heap.size) (a := a) (len := len) (cap := cap) hblk hl hm (fun i f => ((-9223372036854775808 ≤ f.field ∧ f.field ≤ 9223372036854775807) ∧ f.term.length ≤ (Rows.uptoBulk (D i)))) (by
      intro i hi
      obtain ⟨ys, n, hD, _, hyl, hfl⟩ := hf i (by omega)
      rw [lfSize] at hfl hyl
      obtain ⟨f0, g0, t0⟩ := lf_type 0 _ rfl
      obtain ⟨f1, g1, t1⟩ := lf_type 1 _ rfl
      obtain ⟨v0, y0, c0, hy0, r0⟩ := hfl 0 f0 g0
      obtain ⟨v1, y1, c1, hy1, r1⟩ := hfl 1 f1 g1
      rw [t0] at r0; rw [t1] at r1
      obtain ⟨k, e0, rfl, hk⟩ := DataW.trod_int Tryz.underlying3 r0
      obtain ⟨s, e1, rfl, hs⟩ := DataW.trod_string Tryz.underlying9 r1
      cases e0; cases e1
      refine ⟨⟨k, s.data.toList⟩, ⟨wf_i64 hk, ?_⟩, fun j u hj hu => ?_⟩
      · rw [hD, bulk_agg]
        have hmem : (.lit (.string s.data.toList) : DataW H) ∈ ys.map (·.1) := List.mem_map.2 ⟨_, List.mem_of_getElem? hy1, rfl⟩
        have := bulk_mem hmem
        rw [bulk_string] at this
        show s.data.toList.length ≤ _
        omega
      · match j, hj, hu with
        | 0, _, hu => cases hu; exact c0
        | 1, _, hu => cases hu; exact c1)
    refine ⟨_, _, _, l, rfl, h1.symm, h2, ?_, ?_, ?_⟩
    · have e := bulk_len ((List.range len).map D)
      have := bulk_slice ((List.range len).map D) ((List.range (cap - len)).map fun j => D (len + j))
      rw [List.length_map, List.length_range] at e
      exact Nat.le_trans (show l.length ≤ Rows.uptoBulkAll ((List.range len).map D) + 1 by omega) this
    · intro f hf
      obtain ⟨i, hi, rfl⟩ := List.getElem_of_mem hf
      have h4 := h3 i hi
      have h5 : Rows.uptoBulk (D i) ≤ Rows.uptoBulkAll ((List.range len).map D) := bulk_mem (List.mem_map.2 ⟨i, List.mem_range.2 (by omega), rfl⟩)
      have h6 := bulk_slice ((List.range len).map D) ((List.range (cap - len)).map fun j => D (len + j))
      have h7 : Rows.uptoBulk (D i) ≤ Rows.uptoBulk (.slice ((List.range len).map D) ((List.range (cap - len)).map fun j => D (len + j))) := by omega
      exact ⟨h4.1, Nat.le_trans h4.2 h7⟩
    · have e := sum_bulk (fun f : Lf => f.term.length) l D (fun i hi => (h3 i hi).2)
      have := bulk_slice ((List.range len).map D) ((List.range (cap - len)).map fun j => D (len + j))
      rw [h1] at e
      exact Nat.le_trans (show (l.map fun f => f.term.length).sum ≤ Rows.uptoBulkAll ((List.range len).map D) + 1 by omega) this
theorem open_nr_c {fuel : Nat} {cs : List Value} {x : DataW H × List MemPlace} (h : DataW.trod enc Tryz.prog W 0 (fun _ => true) true fuel 25 cs = some x) :
    ∃ A n c, ∃ (l : List NrV), cs = [.slice A n c] ∧ n = l.length ∧ RdL nrS W W.heap.size (.slice A n c) l ∧ l.length ≤ Rows.uptoBulk x.1 ∧ (∀ f ∈ l, ((RdL intS W W.heap.size (.slice f.ca f.n.cur.length f.cc) f.n.cur ∧ RdL intS W W.heap.size (.slice f.oa f.n.off.length f.oc) f.n.off) ∧ (-9223372036854775808 ≤ f.n.slop ∧ f.n.slop ≤ 9223372036854775807) ∧ (SmallInts f.n.cur ∧ f.n.cur.length ≤ (Rows.uptoBulk x.1)) ∧ SmallInts f.n.off ∧ f.n.off.length ≤ (Rows.uptoBulk x.1))) ∧ (l.map fun f => f.n.cur.length + f.n.off.length).sum ≤ Rows.uptoBulk x.1 := by
  have hlt := DataW.trod_lt fuel _ _ _ h
  rcases open_slice_fields Tryz.underlying25 nrStruct nrOne nrCells h with ⟨rfl, rfl⟩ | ⟨a, len, cap, m, D, Pl, rfl, _, hl, hm, hmm, rfl, hf⟩
  · exact ⟨_, _, _, [], rfl, rfl, RdL.nil _ _ _, Nat.zero_le _, fun _ h => absurd h List.not_mem_nil, Nat.zero_le _⟩
  · rw [if_pos rfl] at hmm
    obtain rfl : cap = m := hmm.symm
    by_cases h0 : len = 0
    · subst h0
      exact ⟨_, _, _, [], rfl, rfl, ⟨some a, cap, rfl, hl, hm, fun h => (by simp at h), fun h => by cases h⟩, Nat.zero_le _, fun _ h => absurd h List.not_mem_nil, Nat.zero_le _⟩
    have hblk : a.block < W.heap.size := hlt (.cell a.block a.off) (by
      simp only [List.mem_append]
      left
      have : 0 < cap * (Tryz.prog.fieldsOf 68).size := Nat.mul_pos (by omega) (by rw [nrSize]; decide)
      simp only [MemPlace.row, List.mem_map, List.mem_range]
      exact ⟨0, this, rfl⟩)
    obtain ⟨l, h1, h2, h3⟩ := RdL.of_cells (S := nrS) nrSOk (w := W) (B := W.heap.size) (a := a) (len := len) (cap := cap) hblk hl hm (fun i f => ((RdL intS W W.heap.size (.slice f.ca f.n.cur.length f.cc) f.n.cur ∧ RdL intS W W.heap.size (.slice f.oa f.n.off.length f.oc) f.n.off) ∧ (-9223372036854775808 ≤ f.n.slop ∧ f.n.slop ≤ 9223372036854775807) ∧ (SmallInts f.n.cur ∧ f.n.cur.length ≤ (Rows.uptoBulk (D i))) ∧ SmallInts f.n.off ∧ f.n.off.length ≤ (Rows.uptoBulk (D i)) ∧ f.n.cur.length + f.n.off.length ≤ Rows.uptoBulk (D i))) (by
      intro i hi
      obtain ⟨ys, n, hD, _, hyl, hfl⟩ := hf i (by omega)
      rw [nrSize] at hfl hyl
      obtain ⟨f0, g0, t0⟩ := nr_type 0 _ rfl
      obtain ⟨f1, g1, t1⟩ := nr_type 1 _ rfl
      obtain ⟨f2, g2, t2⟩ := nr_type 2 _ rfl
      obtain ⟨v0, y0, c0, hy0, r0⟩ := hfl 0 f0 g0
      obtain ⟨v1, y1, c1, hy1, r1⟩ := hfl 1 f1 g1
      obtain ⟨v2, y2, c2, hy2, r2⟩ := hfl 2 f2 g2
      rw [t0] at r0; rw [t1] at r1; rw [t2] at r2
      obtain ⟨A0, n0, k0, l0, e0, rfl, R0, b0, s0⟩ := open_ints_c r0
      obtain ⟨A1, n1, k1, l1, e1, rfl, R1, b1, s1⟩ := open_ints_c r1
      obtain ⟨k, e2, rfl, hk⟩ := DataW.trod_int Tryz.underlying3 r2
      cases e0; cases e1; cases e2
      have B0 := bulk_mem (List.mem_map.2 ⟨y0, List.mem_of_getElem? hy0, rfl⟩ : y0.1 ∈ ys.map (·.1))
      have B1 := bulk_mem (List.mem_map.2 ⟨y1, List.mem_of_getElem? hy1, rfl⟩ : y1.1 ∈ ys.map (·.1))
      refine ⟨⟨A0, k0, A1, k1, ⟨k, l0, l1⟩⟩, ⟨⟨R0, R1⟩, wf_i64 hk, ⟨s0, ?_⟩, s1, ?_, ?_⟩, fun j u hj hu => ?_⟩
      · rw [hD, bulk_agg]; show l0.length ≤ _; omega
      · rw [hD, bulk_agg]; show l1.length ≤ _; omega
      · rw [hD, bulk_agg]
        show l0.length + l1.length ≤ _
        match ys, hyl, hy0, hy1 with
        | [z0, z1, z2], _, hy0, hy1 =>
          simp only [List.getElem?_cons_zero, List.getElem?_cons_succ, Option.some.injEq] at hy0 hy1
          subst hy0 hy1
          simp only [List.map_cons, List.map_nil, Rows.uptoBulkAll]
          omega
      · match j, hj, hu with
        | 0, _, hu => cases hu; exact c0
        | 1, _, hu => cases hu; exact c1
        | 2, _, hu => cases hu; exact c2)
    refine ⟨_, _, _, l, rfl, h1.symm, h2, ?_, ?_, ?_⟩
    · have e := bulk_len ((List.range len).map D)
      have := bulk_slice ((List.range len).map D) ((List.range (cap - len)).map fun j => D (len + j))
      rw [List.length_map, List.length_range] at e
      exact Nat.le_trans (show l.length ≤ Rows.uptoBulkAll ((List.range len).map D) + 1 by omega) this
    · intro f hf
      obtain ⟨i, hi, rfl⟩ := List.getElem_of_mem hf
      have h4 := h3 i hi
      have h5 : Rows.uptoBulk (D i) ≤ Rows.uptoBulkAll ((List.range len).map D) := bulk_mem (List.mem_map.2 ⟨i, List.mem_range.2 (by omega), rfl⟩)
      have h6 := bulk_slice ((List.range len).map D) ((List.range (cap - len)).map fun j => D (len + j))
      have h7 : Rows.uptoBulk (D i) ≤ Rows.uptoBulk (.slice ((List.range len).map D) ((List.range (cap - len)).map fun j => D (len + j))) := by omega
      exact ⟨h4.1, h4.2.1, ⟨h4.2.2.1.1, Nat.le_trans h4.2.2.1.2 h7⟩, h4.2.2.2.1, Nat.le_trans h4.2.2.2.2.1 h7⟩
    · have e := sum_bulk (fun f : NrV => f.n.cur.length + f.n.off.length) l D (fun i hi => (h3 i hi).2.2.2.2.2)
      have := bulk_slice ((List.range len).map D) ((List.range (cap - len)).map fun j => D (len + j))
      rw [h1] at e
      exact Nat.le_trans (show (l.map fun f => f.n.cur.length + f.n.off.length).sum ≤ Rows.uptoBulkAll ((List.range len).map D) + 1 by omega) this
end
theorem pgOne : oneCellFields Tryz.prog (Tryz.prog.fieldsOf 28) = true := by kernel_rfl
theorem pgCells : Tryz.prog.cellsOf 28 = (Tryz.prog.fieldsOf 28).size := by kernel_rfl
theorem pgSize : (Tryz.prog.fieldsOf 28).size = 6 := by kernel_rfl
theorem pgStruct : Tryz.prog.underlying 28 = some (.struct (Tryz.prog.fieldsOf 28)) := by kernel_rfl
theorem pgTypes : ((Tryz.prog.fieldsOf 28).map (·.type)).toList = [23, 24, 25, 4, 23, 26] := by kernel_rfl
theorem pg_type (j : Nat) (t : TypeId) (h : [23, 24, 25, 4, 23, 26][j]? = some t) : ∃ f, (Tryz.prog.fieldsOf 28)[j]? = some f ∧ f.type = t := by
  rw [← pgTypes, Array.getElem?_toList, Array.getElem?_map] at h
  obtain ⟨f, h1, h2⟩ := Option.map_eq_some_iff.1 h
  exact ⟨f, h1, h2⟩
/-- The terms and the phrases of a program that comes in are not long together. -/
structure WtPg (p : Pg) : Prop where
  terms : (p.curs.map fun f => f.term.length).sum ≤ 1048576
  offs : (p.nears.map fun n => n.cur.length + n.off.length).sum ≤ 1048576
theorem open_progw {H : Type} {enc : TypeId × Value → H} {W : World} {v : Value} {d : DataW H} {p : List MemPlace} (hv : Value.okWide Tryz.prog W .any 0 28 v) (h : DataW.Trod enc Tryz.prog W 0 (fun _ => true) true 28 v d p) (hb : Rows.uptoBulk d ≤ 1048576) :
    ∃ (x : PgV) (q : Pg), v = x.val q ∧ PgR W W.heap.size x q ∧ SmallPg q ∧ WtPg q := by
  obtain ⟨cs, rfl, hsz⟩ := okWide_struct pgStruct hv
  rw [show Tryz.prog.cellsOf 28 = 6 from by kernel_rfl] at hsz
  obtain ⟨l0⟩ := cs
  match l0, hsz with
  | [c0, c1, c2, c3, c4, c5], _ =>
    obtain ⟨fuel, hf⟩ := h
    obtain ⟨ys, n, _, hx, hl, hyl, hfs⟩ := DataW.trod_struct pgStruct hf
    simp only [Prod.mk.injEq] at hx
    rw [pgSize] at hyl
    have key : ∀ (j : Nat) (t : TypeId) (c : Value), [23, 24, 25, 4, 23, 26][j]? = some t → [c0, c1, c2, c3, c4, c5][j]? = some c → ∃ y, DataW.trod enc Tryz.prog W 0 (fun _ => true) true n t [c] = some y ∧ Rows.uptoBulk y.1 ≤ 1048576 := by
      intro j t c ht hc
      obtain ⟨f, hfj, rfl⟩ := pg_type j t ht
      obtain ⟨ho, hk⟩ := hone_of pgOne j f hfj
      have h1 := hfs j f hfj
      rw [ho, hk] at h1
      have hjl : j < 6 := by have := (List.getElem?_eq_some_iff.1 hc).1; simpa using this
      have hone' : (((Value.agg ⟨[c0, c1, c2, c3, c4, c5]⟩).cells.toList).drop j).take 1 = [c] := by
        show ([c0, c1, c2, c3, c4, c5].drop j).take 1 = [c]
        obtain ⟨hj, he⟩ := List.getElem?_eq_some_iff.1 hc
        rw [List.drop_eq_getElem_cons hj, he]
        rfl
      rw [hone'] at h1
      have hys : ys[j]? = some (ys[j]'(by omega)) := List.getElem?_eq_getElem (by omega)
      refine ⟨_, h1.trans hys, ?_⟩
      have := bulk_mem (List.mem_map.2 ⟨ys[j]'(by omega), List.getElem_mem _, rfl⟩ : (ys[j]'(by omega)).1 ∈ ys.map (·.1))
      rw [hx.1, bulk_agg] at hb
      omega
    obtain ⟨y0, r0, b0⟩ := key 0 _ _ rfl rfl
    obtain ⟨y1, r1, b1⟩ := key 1 _ _ rfl rfl
    obtain ⟨y2, r2, b2⟩ := key 2 _ _ rfl rfl
    obtain ⟨y3, r3, b3⟩ := key 3 _ _ rfl rfl
    obtain ⟨y4, r4, b4⟩ := key 4 _ _ rfl rfl
    obtain ⟨y5, r5, b5⟩ := key 5 _ _ rfl rfl
    obtain ⟨A0, n0, k0, q0, e0, rfl, R0, u0, s0⟩ := open_ints_c r0
    obtain ⟨A1, n1, k1, q1, e1, rfl, R1, u1, s1, t1⟩ := open_lf_c r1
    obtain ⟨A2, n2, k2, q2, e2, rfl, R2, u2, s2, t2⟩ := open_nr_c r2
    obtain ⟨ba, e3, rfl⟩ := DataW.trod_bool Tryz.underlying4 r3
    obtain ⟨A4, n4, k4, q4, e4, rfl, R4, u4, s4⟩ := open_ints_c r4
    obtain ⟨A5, n5, k5, q5, e5, rfl, R5, u5⟩ := open_bytes_c r5
    cases e0; cases e1; cases e2; cases e3; cases e4; cases e5
    refine ⟨⟨.slice A0 q0.length k0, .slice A1 q1.length k1, .slice A2 q2.length k2, .slice A4 q4.length k4, .slice A5 q5.length k5, q2⟩, ⟨q0, q1, q2.map (·.n), ba, q4, q5⟩, rfl, ⟨R0, R1, R2, rfl, fun y hy => (s2 y hy).1, R4, R5⟩, ⟨⟨s0, Nat.le_trans u0 b0⟩, ⟨fun c hc => ⟨(s1 c hc).1, Nat.le_trans (s1 c hc).2 b1⟩, Nat.le_trans u1 b1⟩, ⟨fun m hm => ?_, ?_⟩, ⟨s4, Nat.le_trans u4 b4⟩, Nat.le_trans u5 b5⟩, ⟨Nat.le_trans t1 b1, ?_⟩⟩
    · obtain ⟨y, hy, rfl⟩ := List.mem_map.1 hm
      have := s2 y hy
      exact ⟨this.2.1, ⟨this.2.2.1.1, Nat.le_trans this.2.2.1.2 b2⟩, this.2.2.2.1, Nat.le_trans this.2.2.2.2 b2⟩
    · show (q2.map (·.n)).length ≤ _
      rw [List.length_map]; exact Nat.le_trans u2 b2
    · show (List.map (fun n : Nr => n.cur.length + n.off.length) (q2.map (·.n))).sum ≤ _
      rw [List.map_map]
      exact Nat.le_trans t2 b2
theorem open_prog {H : Type} {enc : TypeId × Value → H} {W : World} {v : Value} {d : DataW H} {p : List MemPlace} (hv : Value.okWide Tryz.prog W .any 0 28 v) (h : DataW.Trod enc Tryz.prog W 0 (fun _ => true) true 28 v d p) (hb : Rows.uptoBulk d ≤ 1048576) :
    ∃ (x : PgV) (q : Pg), v = x.val q ∧ PgR W W.heap.size x q ∧ SmallPg q := by
  obtain ⟨x, q, h1, h2, h3, -⟩ := open_progw hv h hb
  exact ⟨x, q, h1, h2, h3⟩
end Go.Proofs.YtmdpfikalekmlaaGreatDoor
