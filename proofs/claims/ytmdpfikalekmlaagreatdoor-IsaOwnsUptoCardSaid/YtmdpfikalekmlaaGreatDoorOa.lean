/- A slice that comes in, whose elements take one cell each. -/
import Derived.Test.YtmdpfikalekmlaaGreatDoorBulk
import Derived.Test.YtmdpfikalekmlaaGreatDoorRd
namespace Go.Proofs.YtmdpfikalekmlaaGreatDoor
open Go.RowKit Go.ChangeShapes Go.WideShapes Go.Deep
set_option maxRecDepth 100000

theorem slice_ofA {P : Program} {W : World} {t e : TypeId} {v : Value} {A : Option Addr} {n c : Nat} (ht : P.underlying t = some (.slice e)) (hv : Value.okWide P W .any 0 t v) (h : v.cells.toList = [.slice A n c]) : v = .slice A n c := by
  unfold Value.okWide at hv
  simp only [ht] at hv
  unfold Cell.okWide at hv
  cases v <;> simp [Value.cells, Cell.ok, ht] at hv h
  obtain ⟨rfl, rfl, rfl⟩ := h
  rfl
theorem bulk_append {H : Type} (a b : List (DataW H)) : Rows.uptoBulkAll (a ++ b) = Rows.uptoBulkAll a + Rows.uptoBulkAll b := by
  induction a with
  | nil => simp [Rows.uptoBulkAll]
  | cons x a ih => rw [List.cons_append, Rows.uptoBulkAll, Rows.uptoBulkAll, ih]; omega
theorem sum_le_bulk {H α : Type} (f : α → Nat) (D : Nat → DataW H) (l : List α) (h : ∀ i (hi : i < l.length), f l[i] ≤ Rows.uptoBulk (D i)) : (l.map f).sum ≤ Rows.uptoBulkAll ((List.range l.length).map D) := by
  induction l using snoc_ind with
  | h0 => simp
  | h1 l x ih =>
    have h1 := ih (fun i hi => by have := h i (by rw [List.length_append]; omega); rw [List.getElem_append_left hi] at this; exact this)
    have h2 := h l.length (by simp)
    rw [List.getElem_append_right (Nat.le_refl _)] at h2
    simp only [Nat.sub_self, List.getElem_cons_zero] at h2
    rw [List.length_append, List.length_singleton, List.range_succ, List.map_append, List.map_append, bulk_append, List.sum_append]
    simp only [List.map_cons, List.map_nil, Rows.uptoBulkAll, List.sum_cons, List.sum_nil]
    omega
theorem open_cells1 {H α : Type} {enc : TypeId × Value → H} {S : Shape α} (hS : S.Ok) (h1 : S.size = 1) (hC : Tryz.prog.cellsOf S.tE = 1) (f : α → Nat) (Q : α → Prop)
    {W : World} (hx : ∀ (n : Nat) (cs : List Value) (D : DataW H) (ps : List MemPlace), DataW.trod enc Tryz.prog W 0 (fun _ => true) true n S.tE cs = some (D, ps) → ∃ x c, cs = [c] ∧ S.enc x = [c] ∧ Q x ∧ f x ≤ Rows.uptoBulk D)
    {v : Value} {d : DataW H} {p : List MemPlace} (hv : Value.okWide Tryz.prog W .any 0 S.tS v) (h0 : DataW.Trod enc Tryz.prog W 0 (fun _ => true) true S.tS v d p) :
    ∃ (l : List α), RdL S W W.heap.size v l ∧ (l.map f).sum ≤ Rows.uptoBulk d ∧ ∀ x ∈ l, Q x := by
  obtain ⟨fuel, h⟩ := h0
  have hlt := DataW.trod_lt fuel _ _ _ h
  rcases open_slice hS.under h with ⟨hc, hx0⟩ | ⟨a, len, cap, m, n, D, Pl, hc, _, hl, hm, hmm, hx0, hf⟩
  · have := slice_ofA hS.under hv hc
    subst this
    exact ⟨[], RdL.nil _ _ _, by simp, fun _ h => (by cases h)⟩
  · rw [if_pos rfl] at hmm
    obtain rfl : cap = m := hmm.symm
    have := slice_ofA hS.under hv hc
    subst this
    simp only [Prod.mk.injEq] at hx0
    obtain ⟨hd, hp⟩ := hx0
    by_cases h0 : len = 0
    · subst h0
      exact ⟨[], ⟨some a, cap, rfl, hl, hm, fun h => (by simp at h), fun h => by cases h⟩, by simp, fun _ h => (by cases h)⟩
    have hblk : a.block < W.heap.size := hlt (.cell a.block a.off) (by
      show MemPlace.cell a.block a.off ∈ p
      rw [hp]
      simp only [List.mem_append]
      left
      simp only [MemPlace.row, List.mem_map, List.mem_range]
      exact ⟨0, by rw [hC]; omega, rfl⟩)
    obtain ⟨l, hl1, h2, h3⟩ := RdL.of_cells hS (w := W) (B := W.heap.size) (a := a) (len := len) (cap := cap) hblk hl hm (fun i x => Q x ∧ f x ≤ Rows.uptoBulk (D i)) (by
      intro i hi
      obtain ⟨cs', hcs, ht⟩ := hf i (by omega)
      obtain ⟨x, c, rfl, he, hq, hfb⟩ := hx _ _ _ _ ht
      refine ⟨x, ⟨hq, hfb⟩, fun j u hj hu => ?_⟩
      rw [he] at hu
      rw [h1] at hj ⊢
      obtain rfl : j = 0 := by omega
      simp only [List.getElem?_cons_zero, Option.some.injEq] at hu
      subst hu
      rw [hC] at hcs
      have := cell_of_cells?_one hcs
      rw [Nat.mul_one] at this ⊢
      exact this)
    refine ⟨l, h2, ?_, ?_⟩
    · have e := sum_le_bulk f D l (fun i hi => (h3 i hi).2)
      have := bulk_slice ((List.range len).map D) ((List.range (cap - len)).map fun j => D (len + j))
      rw [hl1] at e
      rw [hd]; omega
    · intro x hx
      obtain ⟨i, hi, rfl⟩ := List.getElem_of_mem hx
      exact (h3 i hi).1
end Go.Proofs.YtmdpfikalekmlaaGreatDoor
