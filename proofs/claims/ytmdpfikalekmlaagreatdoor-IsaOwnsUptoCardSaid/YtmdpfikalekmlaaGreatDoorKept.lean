/- Rows and blocks that stay while another row is written. -/
import Derived.Test.YtmdpfikalekmlaaGreatDoorBlk
import Derived.Test.YtmdpfikalekmlaaGreatDoorOwnL
import Derived.Deep.AppendLies
import Derived.Deep.RegionHeldLaw
namespace Go.Proofs.YtmdpfikalekmlaaGreatDoor
open Go.RowKit
set_option linter.unusedVariables false

/-- A row is not touched by what is written into a row of another type. -/
theorem OwnL.keptL {α β : Type} {S : Shape α} {T : Shape β} {w w' : World} {B B2 : Nat} {v u : Value} {l : List α} {m : List β} (h : OwnL S w B v l) (hu : OwnL T w B2 u m) (hne : S.tE ≠ T.tE) (hk : KeptBut w w' u) : OwnL S w' B v l := by
  refine ⟨h.1, ?_⟩
  rcases h.2 with h2 | ⟨g, cap, cur, hv, hg, hh, r⟩
  · exact Or.inl h2
  · refine Or.inr ⟨g, cap, cur, hv, hg, ?_, r⟩
    have hlt : g < w.heap.size := by
      rcases Nat.lt_or_ge g w.heap.size with h | h
      · exact h
      · rw [Array.getElem?_eq_none h] at hh; cases hh
    rw [hk g hlt ?_]
    · exact hh
    · intro e
      obtain ⟨cur', he⟩ := own_block hu e
      rw [hh] at he
      injection he with he
      injection he with _ ht
      exact hne ht
theorem Blk.keptL {β : Type} {T : Shape β} {w w' : World} {B2 g : Nat} {t : TypeId} {cs : Array Value} {u : Value} {m : List β} (h : Blk w g t cs) (hu : OwnL T w B2 u m) (hne : t ≠ T.tE) (hk : KeptBut w w' u) : Blk w' g t cs := by
  unfold Blk at h ⊢
  rw [hk g (Blk.lt h) ?_]
  · exact h
  · intro e
    obtain ⟨cur', he⟩ := own_block hu e
    rw [h] at he
    injection he with he
    injection he with _ ht
    exact hne ht
theorem OwnL.offBlk {α : Type} {S : Shape α} {w : World} {B g : Nat} {t : TypeId} {cs : Array Value} {v : Value} {l : List α} (h : OwnL S w B v l) (hb : Blk w g t cs) (hne : t ≠ S.tE) : ∀ z, v.ownBlock = some z → z ≠ g := by
  intro z hz e
  subst e
  obtain ⟨cur', he⟩ := own_block h hz
  unfold Blk at hb
  rw [hb] at he
  injection he with he
  injection he with _ ht
  exact hne ht
theorem OwnL.keptNe {α : Type} {S : Shape α} {w w' : World} {B : Nat} {v u : Value} {l : List α} (h : OwnL S w B v l) (hk : KeptBut w w' u) (hne : ∀ g, v.ownBlock = some g → u.ownBlock ≠ some g) : OwnL S w' B v l := by
  refine ⟨h.1, ?_⟩
  rcases h.2 with h2 | ⟨g, cap, cur, hv, hg, hh, r⟩
  · exact Or.inl h2
  · refine Or.inr ⟨g, cap, cur, hv, hg, ?_, r⟩
    have hlt : g < w.heap.size := by
      rcases Nat.lt_or_ge g w.heap.size with h | h
      · exact h
      · rw [Array.getElem?_eq_none h] at hh; cases hh
    rw [hk g hlt (hne g (by rw [hv]; rfl))]
    exact hh
theorem set_size (w : World) (p : Addr) (u : Value) : (w.setCell p u).heap.size = w.heap.size := by simp [World.setCell]
theorem own_some (g n c : Nat) : (Value.slice (some ⟨g, 0, none⟩) n c).ownBlock = some g := rfl
theorem OwnL.form {α : Type} {S : Shape α} {w : World} {B : Nat} {v : Value} {l : List α} (h : OwnL S w B v l) : ∃ A cap, v = .slice A l.length cap ∧ l.length ≤ cap ∧ cap ≤ maxLen := by
  obtain ⟨A, cap, e, h1, h2, _⟩ := h.open_
  exact ⟨A, cap, e, h1, h2⟩
/-- The last element off. -/
theorem OwnL.pop {α : Type} {S : Shape α} (hS : S.Ok) {w : World} {B : Nat} {A : Option Addr} {n cap : Nat} {l : List α} {x : α} (h : OwnL S w B (.slice A n cap) (l ++ [x])) : OwnL S w B (.slice A l.length cap) l := by
  have hl := Shape.cells_length hS l
  rcases h.2 with ⟨_, h0⟩ | ⟨g, cap', cur, hv, hg, hh, hn, hm, hs, ht⟩
  · simp at h0
  · injection hv with e1 e2 e3
    subst e1 e3
    refine ⟨hl, Or.inr ⟨g, cap, cur, rfl, hg, hh, ?_, hm, hs, ?_⟩⟩
    · rw [List.length_append, List.length_singleton] at hn; omega
    · rw [Shape.cells_append] at ht
      have := congrArg (List.take (l.length * S.size)) ht
      rw [List.take_take, List.take_append_of_le_length (by rw [hl]; exact Nat.le_refl _), List.take_of_length_le (l := S.cells l) (by rw [hl]; exact Nat.le_refl _)] at this
      rw [← this]
      congr 1
      have : l.length * S.size ≤ (l ++ [x]).length * S.size := Nat.mul_le_mul_right _ (by simp)
      exact (Nat.min_eq_left this).symm
/-- One element, made in the region, onto a list of the call's own; where the list lies then. -/
theorem OwnL.stepAppendG {α : Type} {S : Shape α} (hS : S.Ok) {w : World} {B : Nat} {v : Value} {l : List α} (h : OwnL S w B v l) (x : α) (nb : Nat) {ops : Array Oper} {o : Oper} {a : Act} {K : Act → World → Prop} {Q : Exit → Act → World → Prop} {E : Prop} (hgd : o.guard = none) (s y : Operand)
    (ho : o.op = .call { callee := .builtin .append, args := #[s, y], argTypes := #[S.tS, S.tS] }) (hs : a.eval s = v) (hy : a.eval y = .slice (some ⟨nb, 0, none⟩) 1 1) (hnb : ∀ j u, (S.enc x)[j]? = some u → w.cell? ⟨nb, j, none⟩ = some u) (hB : B ≤ w.heap.size) (hl : l.length + 1 ≤ 970000000000)
    (k : ∀ g cap w', OwnL S w' B (.slice (some ⟨g, 0, none⟩) (l.length + 1) cap) (l ++ [x]) → Below B w w' → KeptBut w w' v → (v.ownBlock = some g ∨ g = w.heap.size) → g < w'.heap.size → K (a.put o.dst (.slice (some ⟨g, 0, none⟩) (l.length + 1) cap)) w') :
    if Region.wanted o (yielded ops a.tmps) = true then Oper.wp Tryz.prog o a w K Q else E := by
  obtain ⟨i0, hi, hz0, hz1, hz2⟩ := info_parts hS.info
  have hlt := h.lt
  refine step_append_lies w hgd s y S.tS ho B S.tE i0 S.zero S.size S.bytes hS.under hi hz0 hz1 hz2 hS.zs hS.pos v l.length (S.cells l) hs h ⟨nb, 0, none⟩ 1 1 (S.enc x) hy (by rw [hS.len, Nat.one_mul]) ?_ (hS.one x) (by decide) ?_ ?_ hB w.heap.size rfl ?_
  · intro j u hj
    rw [show (⟨nb, 0, none⟩ : Addr).add j = ⟨nb, j, none⟩ from by unfold Addr.add; split <;> simp_all]
    exact hnb j u hj
  · unfold maxLen; omega
  · have := hS.small
    have h2 := Nat.mul_le_mul hl this
    omega
  · intro g2 cap2 w' h2 h3 h4 h5
    refine k g2 cap2 w' ?_ ?_ ?_ h4 h5
    · unfold OwnL
      rw [List.length_append, Shape.cells_append, show S.cells [x] = S.enc x from by simp [Shape.cells]]
      exact h2
    · exact (Below.refl _ _).grown h3 hB (fun g hg => (hlt g hg).1)
    · intro b hb hv
      exact h3.block b hb (fun e => hv e.symm)
end Go.Proofs.YtmdpfikalekmlaaGreatDoor
