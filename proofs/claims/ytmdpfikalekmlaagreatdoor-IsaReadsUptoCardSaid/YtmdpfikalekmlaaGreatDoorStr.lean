/- Slices of strings; appending what came in. -/
import Derived.Test.YtmdpfikalekmlaaGreatDoorBulk
import Derived.Test.YtmdpfikalekmlaaGreatDoorBlk
namespace Go.Proofs.YtmdpfikalekmlaaGreatDoor
open Go.RowKit Go.ChangeShapes Go.WideShapes Go.Deep
set_option maxRecDepth 100000

def strS : Shape ByteArray := { tS := 59, tE := 9, size := 1, bytes := 16, enc := fun x => [.string x], zero := .string ⟨#[]⟩ }
theorem strOk : strS.Ok where
  under := Tryz.underlying59
  info := by kernel_rfl
  zs := rfl
  pos := by decide
  len := fun _ => rfl
  one := fun x u hu => by
    simp only [strS, List.mem_cons, List.not_mem_nil, or_false] at hu
    subst hu; rfl
  small := by decide
theorem at_str {w : World} {B : Nat} {A : Option Addr} {n cap : Nat} {l : List ByteArray} (h : RdL strS w B (.slice A n cap) l) {k : Nat} (hk : k < l.length) :
    ∃ a, A = some a ∧ (a.add k).block < B ∧ w.cell? (a.add k) = some (.string l[k]) := by
  obtain ⟨a, rfl, hb, h0, h⟩ := h.at2 strOk hk
  have e : k * strS.size = k := Nat.mul_one k
  rw [e] at hb h0
  exact ⟨a, rfl, hb, h0 _ rfl⟩
/-- A value of a slice's type is a slice. -/
theorem slice_of_ok {P : Program} {W : World} {t e : TypeId} {v : Value} {A : Option Addr} {n c : Nat} (ht : P.underlying t = some (.slice e)) (hv : Value.okWide P W .any 0 t v) (h : v.cells.toList = [.slice A n c]) : v = .slice A n c := by
  unfold Value.okWide at hv
  simp only [ht] at hv
  unfold Cell.okWide at hv
  cases v <;> simp [Value.cells, Cell.ok, ht] at hv h
  obtain ⟨rfl, rfl, rfl⟩ := h
  rfl
theorem open_strs {H : Type} {enc : TypeId × Value → H} {W : World} {v : Value} {d : DataW H} {p : List MemPlace} (hv : Value.okWide Tryz.prog W .any 0 59 v) (h0 : DataW.Trod enc Tryz.prog W 0 (fun _ => true) true 59 v d p) :
    ∃ (l : List ByteArray), RdL strS W W.heap.size v l ∧ l.length ≤ Rows.uptoBulk d ∧ ∀ s ∈ l, s.size ≤ maxLen ∧ s.size ≤ Rows.uptoBulk d := by
  obtain ⟨fuel, h⟩ := h0
  have hlt := DataW.trod_lt fuel _ _ _ h
  have hC : Tryz.prog.cellsOf 9 = 1 := by kernel_rfl
  rcases open_slice Tryz.underlying59 h with ⟨hc, hx⟩ | ⟨a, len, cap, m, n, D, Pl, hc, _, hl, hm, hmm, hx, hf⟩
  · have := slice_of_ok Tryz.underlying59 hv hc
    subst this
    exact ⟨[], RdL.nil _ _ _, by simp, fun _ h => (by cases h)⟩
  · rw [if_pos rfl] at hmm
    obtain rfl : cap = m := hmm.symm
    have := slice_of_ok Tryz.underlying59 hv hc
    subst this
    simp only [Prod.mk.injEq] at hx
    obtain ⟨hd, hp⟩ := hx
    by_cases h0 : len = 0
    · subst h0
      exact ⟨[], ⟨some a, cap, rfl, hl, hm, fun h => (by simp at h), fun h => by cases h⟩, by simp, fun _ h => (by cases h)⟩
    have hblk : a.block < W.heap.size := hlt (.cell a.block a.off) (by
      show MemPlace.cell a.block a.off ∈ p
      rw [hp, hC]
      simp only [List.mem_append]
      left
      simp only [MemPlace.row, List.mem_map, List.mem_range]
      exact ⟨0, by omega, rfl⟩)
    obtain ⟨l, h1, h2, h3⟩ := RdL.of_cells (S := strS) strOk (w := W) (B := W.heap.size) (a := a) (len := len) (cap := cap) hblk hl hm (fun i f => f.size ≤ maxLen ∧ f.size ≤ Rows.uptoBulk (D i)) (by
      intro i hi
      obtain ⟨cs', hcc, ht⟩ := hf i (by omega)
      obtain ⟨s, e0, e1, hs⟩ := DataW.trod_string Tryz.underlying9 ht
      subst e0
      simp only [Prod.mk.injEq] at e1
      rw [hC] at hcc
      obtain ⟨_, _, hat⟩ := World.cells?_some hcc
      refine ⟨s, ⟨hs, ?_⟩, fun j u hj hu => ?_⟩
      · rw [e1.1, bulk_string, ← ba_size]; omega
      · obtain rfl : j = 0 := by simp only [strS] at hj; omega
        cases hu
        have := hat 0 (by omega)
        rw [add_of_add] at this
        exact this)
    refine ⟨l, h2, ?_, ?_⟩
    · have e := bulk_len ((List.range len).map D)
      have := bulk_slice ((List.range len).map D) ((List.range (cap - len)).map fun j => D (len + j))
      rw [List.length_map, List.length_range] at e
      rw [hd]
      exact Nat.le_trans (show l.length ≤ Rows.uptoBulkAll ((List.range len).map D) + 1 by omega) this
    · intro f hf
      obtain ⟨i, hi, rfl⟩ := List.getElem_of_mem hf
      refine ⟨(h3 i hi).1, ?_⟩
      have h4 := (h3 i hi).2
      have h5 : Rows.uptoBulk (D i) ≤ Rows.uptoBulkAll ((List.range len).map D) := bulk_mem (List.mem_map.2 ⟨i, List.mem_range.2 (by omega), rfl⟩)
      have := bulk_slice ((List.range len).map D) ((List.range (cap - len)).map fun j => D (len + j))
      rw [hd]
      exact Nat.le_trans (show l[i].size ≤ Rows.uptoBulkAll ((List.range len).map D) + 1 by omega) this
/-- 'append(l, x...)', x of whatever place. -/
theorem OwnL.appendRd {α : Type} {S : Shape α} (hS : S.Ok) {w : World} {B C : Nat} {v x : Value} {l m : List α} (h : OwnL S w B v l) (hx : RdL S w C x m) {ops : Array Oper} {rest : List Oper} {o : Oper} {a : Act} {Q : Exit → Act → World → Prop} (hgd : o.guard = none) (s y : Operand)
    (ho : o.op = .call { callee := .builtin .append, args := #[s, y], argTypes := #[S.tS, S.tS] }) (hs : a.eval s = v) (hy : a.eval y = x) (hB : B ≤ w.heap.size) (hl : l.length + m.length ≤ 970000000000)
    (k : ∀ v' w', OwnL S w' B v' (l ++ m) → Below B w w' → wpList Tryz.prog ops Q rest (a.put o.dst v') w') :
    wpList Tryz.prog ops Q (o :: rest) a w := by
  obtain ⟨i0, hi, hz0, hz1, hz2⟩ := info_parts hS.info
  have hlt := h.lt
  obtain ⟨A, cap, rfl, h1, h2, h3, h4⟩ := hx
  cases A with
  | none =>
    have e : m = [] := by
      rcases Nat.eq_zero_or_pos m.length with h0 | h0
      · exact List.eq_nil_of_length_eq_zero h0
      · obtain ⟨_, e, _⟩ := h3 h0; cases e
    subst e
    rw [h4 rfl] at hy
    refine wpList_append_own_none hgd s y S.tS ho B S.tE i0 S.size hS.under hi v l.length (S.cells l) hs h hy ?_
    exact k v w (by rw [List.append_nil]; exact h) (Below.refl _ _)
  | some ad =>
    have hc : ∀ j u, (S.cells m)[j]? = some u → w.cell? (ad.add j) = some u := by
      intro j u hu
      rcases Nat.eq_zero_or_pos m.length with h0 | h0
      · rw [List.eq_nil_of_length_eq_zero h0] at hu; simp [Shape.cells] at hu
      · obtain ⟨a', e, _, hc⟩ := h3 h0
        cases e
        exact hc j u hu
    refine wpList_append_own _ hgd s y S.tS ho B S.tE i0 S.zero S.size S.bytes hS.under hi hz0 hz1 hz2 hS.zs hS.pos v l.length (S.cells l) hs h ad m.length cap (S.cells m) hy (Shape.cells_length hS m) hc ?_ ?_ ?_ hB ?_
    · intro u hu
      obtain ⟨x, _, hx⟩ := List.mem_flatMap.1 hu
      exact hS.one x u hx
    · unfold maxLen; omega
    · have := hS.small
      have h1 : (l.length + m.length) * S.bytes ≤ 970000000000 * 145 := Nat.mul_le_mul hl this
      omega
    · intro v' w' h2 h3 _
      refine k v' w' ?_ ?_
      · unfold OwnL
        rw [Shape.cells_append, List.length_append]
        exact h2
      · exact (Below.refl _ _).grown h3 hB (fun g hg => (hlt g hg).1)
end Go.Proofs.YtmdpfikalekmlaaGreatDoor
