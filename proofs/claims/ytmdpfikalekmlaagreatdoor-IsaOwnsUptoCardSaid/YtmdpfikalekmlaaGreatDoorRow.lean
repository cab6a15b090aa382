/- What every row's proof uses: arguments read behind a call as before it. -/
import Derived.Test.YtmdpfikalekmlaaGreatDoorRd
import Derived.Carry
import Derived.OpenShut
import Derived.ShutString
namespace Go.Proofs.YtmdpfikalekmlaaGreatDoor
open Go.RowKit Go.ChangeShapes Go.WideShapes

theorem trodAll_up {H : Type} {enc : TypeId × Value → H} {P : Program} (hl : laidOutB P = true) {W W' : World} (hb : Below W.heap.size W W') :
    ∀ {ts : List TypeId} {vs : List Value} {ds : List (DataW H)} {ps : List MemPlace}, ts.all (fun t => P.readableRec t && decide (t < P.types.size)) = true → DataW.TrodAll enc P W 0 (fun _ => true) true ts vs ds ps →
      DataW.TrodAll enc P W' 0 (fun b => decide (b < W.heap.size)) true ts vs ds ps
  | [], [], [], _, _, h => h
  | [], _ :: _, _, _, _, h => h.elim
  | [], [], _ :: _, _, _, h => h.elim
  | _ :: _, [], _, _, _, h => h.elim
  | _ :: _, _ :: _, [], _, _, h => h.elim
  | t :: ts, v :: vs, d :: ds, ps, hr, h => by
    have hlt := DataW.TrodAll.lt h
    obtain ⟨p, q, h1, h2, e⟩ := h
    subst e
    simp only [List.all_cons, Bool.and_eq_true, decide_eq_true_eq] at hr
    obtain ⟨⟨hr1, hr2⟩, hr3⟩ := hr
    refine ⟨p, q, Below.trod hl hr1 hr2 h1 hb (fun x hx => hlt x (List.mem_append_left _ hx)), trodAll_up hl hb (by simpa [List.all_eq_true] using hr3) h2, rfl⟩
/-- A list out of cells. -/
theorem RdL.of_cells {α : Type} {S : Shape α} (hS : S.Ok) {w : World} {B : Nat} {a : Addr} {len cap : Nat} (hb : a.block < B) (hl : len ≤ cap) (hm : cap ≤ maxLen) (Q : Nat → α → Prop)
    (hx : ∀ i, i < len → ∃ x : α, Q i x ∧ ∀ j u, j < S.size → (S.enc x)[j]? = some u → w.cell? (a.add (i * S.size + j)) = some u) :
    ∃ l : List α, l.length = len ∧ RdL S w B (.slice (some a) len cap) l ∧ ∀ i (hi : i < l.length), Q i l[i] := by
  have key : ∀ n, n ≤ len → ∃ l : List α, l.length = n ∧ (∀ i (hi : i < l.length), Q i l[i] ∧ ∀ j u, j < S.size → (S.enc l[i])[j]? = some u → w.cell? (a.add (i * S.size + j)) = some u) := by
    intro n
    induction n with
    | zero => exact fun _ => ⟨[], rfl, fun i hi => by cases hi⟩
    | succ n ih =>
      intro hn
      obtain ⟨l, h1, h2⟩ := ih (by omega)
      obtain ⟨x, h3, h4⟩ := hx n (by omega)
      refine ⟨l ++ [x], by simp [h1], fun i hi => ?_⟩
      rcases Nat.lt_or_ge i l.length with h | h
      · rw [List.getElem_append_left h]; exact h2 i h
      · have e : i = n := by simp at hi; omega
        subst e
        have e2 : (l ++ [x])[i] = x := by rw [List.getElem_append_right h]; simp [h1]
        rw [e2]; exact ⟨h3, h4⟩
  obtain ⟨l, h1, h2⟩ := key len (Nat.le_refl _)
  refine ⟨l, h1, ⟨some a, cap, by rw [h1], by omega, hm, fun _ => ⟨a, rfl, hb, fun j u hu => ?_⟩, fun h => by cases h⟩, fun i hi => (h2 i hi).1⟩
  have hlen := Shape.cells_length hS l
  have hj : j < (S.cells l).length := (List.getElem?_eq_some_iff.1 hu).1
  rw [hlen] at hj
  have hp := hS.pos
  have hk : j / S.size < l.length := Nat.div_lt_of_lt_mul (by rw [Nat.mul_comm]; exact hj)
  have hm2 : j % S.size < S.size := Nat.mod_lt _ hp
  have e : j = (j / S.size) * S.size + j % S.size := by rw [Nat.mul_comm]; exact (Nat.div_add_mod j S.size).symm
  rw [e] at hu ⊢
  rw [Shape.cells_get hS l _ _ hk hm2] at hu
  exact (h2 _ hk).2 _ u hm2 hu
end Go.Proofs.YtmdpfikalekmlaaGreatDoor
