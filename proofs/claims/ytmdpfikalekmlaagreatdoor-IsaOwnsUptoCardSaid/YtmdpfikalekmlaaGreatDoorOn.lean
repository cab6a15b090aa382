/- Many slices, each alone in its row: what concordmem's Own and OwnInts ask. -/
import Derived.Test.YtmdpfikalekmlaaGreatDoorOm
namespace Go.Proofs.YtmdpfikalekmlaaGreatDoor
open Go.RowKit
set_option linter.unusedVariables false

/-- Every block that is no row of e is as it was. -/
def KTy (e : TypeId) (w w' : World) : Prop := ∀ b, b < w.heap.size → (∀ cs mk, w.heap[b]? ≠ some (.cells cs e mk)) → w'.heap[b]? = w.heap[b]?
theorem KTy.refl (e : TypeId) (w : World) : KTy e w w := fun _ _ _ => rfl
theorem KTy.trans {e : TypeId} {a b c : World} (h : KTy e a b) (k : KTy e b c) (hs : a.heap.size ≤ b.heap.size) : KTy e a c := fun z hz hn => by
  have h1 := h z hz hn
  rw [← h1]
  exact k z (Nat.lt_of_lt_of_le hz hs) (fun cs mk => by rw [h1]; exact hn cs mk)
theorem KTy.ofBelow {e : TypeId} {w w' : World} (hb : Below w.heap.size w w') : KTy e w w' := fun b h _ => hb.block b h
theorem KTy.below {e : TypeId} {w0 w w' : World} (h : KTy e w0 w) (hs : w0.heap.size ≤ w.heap.size) (hb : Below w.heap.size w w') : KTy e w0 w' := h.trans (KTy.ofBelow hb) hs
theorem KTy.kept {α : Type} {S : Shape α} {e : TypeId} {w0 w w' : World} {B : Nat} {u : Value} {m : List α} (h : KTy e w0 w) (hs : w0.heap.size ≤ w.heap.size) (ho : OwnL S w B u m) (he : S.tE = e) (hk : KeptBut w w' u) : KTy e w0 w' := by
  refine h.trans (fun b hb hn => hk b hb fun hu => ?_) hs
  obtain ⟨cur, hc⟩ := own_block ho hu
  rw [he] at hc
  exact hn _ _ hc
theorem KTy.new {e : TypeId} {w0 w w' : World} {u : Value} (h : KTy e w0 w) (hs : w0.heap.size ≤ w.heap.size) (hu : ∀ b, u.ownBlock = some b → w0.heap.size ≤ b) (hk : KeptBut w w' u) : KTy e w0 w' := fun b hb hn => by
  rw [hk b (Nat.lt_of_lt_of_le hb hs) (fun e => by have := hu b e; omega)]
  exact h b hb hn
/-- A block of another type is kept. -/
theorem KTy.blk {e t : TypeId} {w w' : World} {g : Nat} {cs : Array Value} (h : KTy e w w') (hb : w.heap[g]? = some (.cells cs t (0, 0))) (hne : t ≠ e) : w'.heap[g]? = some (.cells cs t (0, 0)) := by
  have hlt : g < w.heap.size := by
    rcases Nat.lt_or_ge g w.heap.size with h | h
    · exact h
    · rw [Array.getElem?_eq_none h] at hb; cases hb
  rw [h g hlt (fun cs' mk e2 => by rw [hb] at e2; injection e2 with e2; injection e2 with _ e3; exact hne e3)]
  exact hb
structure SlV where
  a : Option Addr
  n : Nat
  c : Nat
def SlV.val (s : SlV) : Value := .slice s.a s.n s.c
def updC {α : Type} (C : Nat → List α) (q : Nat) (l : List α) : Nat → List α := fun p => if p = q then l else C p
theorem updC_same {α : Type} (C : Nat → List α) (q : Nat) (l : List α) : updC C q l q = l := by unfold updC; rw [if_pos rfl]
theorem updC_ne {α : Type} {C : Nat → List α} {p q : Nat} {l : List α} (h : p ≠ q) : updC C q l p = C p := by unfold updC; rw [if_neg h]

/-- Each slice owns its list, and no two lie in one row. -/
structure Many {α : Type} (S : Shape α) (w : World) (B : Nat) (s : List SlV) (C : Nat → List α) : Prop where
  own : ∀ (q : Nat) (t : SlV), s[q]? = some t → OwnL S w B t.val (C q)
  apart : ∀ (p q : Nat) (t u : SlV), s[p]? = some t → s[q]? = some u → p ≠ q → ∀ b, t.val.ownBlock = some b → u.val.ownBlock ≠ some b
section
variable {α : Type} {S : Shape α} {w w' : World} {B : Nat} {s g : List SlV} {C D O : Nat → List α}
theorem Many.below (h : Many S w B s C) (hb : Below w.heap.size w w') : Many S w' B s C := ⟨fun q t ht => (h.own q t ht).below hb, h.apart⟩
theorem Many.keptL {β : Type} {T : Shape β} {B2 : Nat} {u : Value} {m : List β} (h : Many S w B s C) (hu : OwnL T w B2 u m) (hne : S.tE ≠ T.tE) (hk : KeptBut w w' u) : Many S w' B s C :=
  ⟨fun q t ht => (h.own q t ht).keptL hu hne hk, h.apart⟩
theorem Many.len (h : Many S w B s C) {q : Nat} {t : SlV} (ht : s[q]? = some t) : t.n = (C q).length := by
  obtain ⟨A, cap, e, _⟩ := (h.own q t ht).form
  unfold SlV.val at e
  injection e with _ e2 _
/-- Element j of slice q is written over. -/
theorem Many.put (hS1 : S.size = 1) (h : Many S w B s C) {q b n c : Nat} (ht : s[q]? = some ⟨some ⟨b, 0, none⟩, n, c⟩) (j : Nat) (x : α) (e : Value) (he : S.enc x = [e]) (h1 : ∀ y, ∃ v, S.enc y = [v]) (hj : j < (C q).length) :
    Many S (w.setCell ⟨b, j, none⟩ e) B s (updC C q ((C q).set j x)) := by
  have ho := h.own q _ ht
  have hn := h.len ht
  simp only [] at hn
  subst hn
  have hset : ∀ (l : List α) (j : Nat), (S.cells l).set j e = S.cells (l.set j x) := by
    intro l
    induction l with
    | nil => intro j; simp [Shape.cells]
    | cons y l ih =>
      intro j
      obtain ⟨v, hv⟩ := h1 y
      have e1 : S.cells (y :: l) = v :: S.cells l := by simp [Shape.cells, hv]
      cases j with
      | zero =>
        have e2 : S.cells (x :: l) = e :: S.cells l := by simp [Shape.cells, he]
        rw [e1, List.set_cons_zero, List.set_cons_zero, e2]
      | succ j =>
        have e2 : S.cells (y :: l.set j x) = v :: S.cells (l.set j x) := by simp [Shape.cells, hv]
        rw [e1, List.set_cons_succ, List.set_cons_succ, e2, ih]
  have hst := World.ownsRow.stored (show w.ownsRow B S.tE S.size (.slice (some ⟨b, 0, none⟩) (C q).length c) (C q).length (S.cells (C q)) from ho) j e
  refine ⟨fun p t hp => ?_, h.apart⟩
  by_cases hpq : p = q
  · subst hpq
    rw [ht] at hp
    injection hp with hp
    subst hp
    rw [updC_same]
    unfold OwnL
    rw [List.length_set, ← hset]
    exact hst.1
  · rw [updC_ne hpq]
    refine (h.own p t hp).keptNe (u := .slice (some ⟨b, 0, none⟩) (C q).length c) (fun k hk hne => hst.2.block k hk (fun e => hne e.symm)) fun k hk => ?_
    exact h.apart p q t _ hp ht hpq k hk

/-- The slices g have grown out of the slices s, whose lists O still stand where they were. -/
structure Grown (S : Shape α) (w : World) (B : Nat) (s g : List SlV) (O D : Nat → List α) : Prop where
  many : Many S w B g D
  len : g.length = s.length
  old : ∀ (q : Nat) (t : SlV), s[q]? = some t → t.n = (O q).length ∧ ∀ j x, (O q)[j]? = some x → ∃ b v, t.a = some ⟨b, 0, none⟩ ∧ b < w.heap.size ∧ S.enc x = [v] ∧ w.cell? ⟨b, j, none⟩ = some v
  lt : ∀ (q : Nat) (t : SlV), s[q]? = some t → ∀ b, t.val.ownBlock = some b → b < w.heap.size
  apart : ∀ (p q : Nat) (t u : SlV), s[p]? = some t → g[q]? = some u → p ≠ q → ∀ b, t.val.ownBlock = some b → u.val.ownBlock ≠ some b
  pre : ∀ q : Nat, (O q).length ≤ (D q).length
theorem Grown.below (h : Grown S w B s g O D) (hb : Below w.heap.size w w') : Grown S w' B s g O D := by
  refine ⟨h.many.below hb, h.len, fun q t ht => ⟨(h.old q t ht).1, fun j x hx => ?_⟩, fun q t ht b hb2 => Nat.lt_of_lt_of_le (h.lt q t ht b hb2) hb.size, h.apart, h.pre⟩
  obtain ⟨b, v, h1, h2, h3, h4⟩ := (h.old q t ht).2 j x hx
  exact ⟨b, v, h1, Nat.lt_of_lt_of_le h2 hb.size, h3, (hb.cell h2).trans h4⟩
/-- One slice has grown by one. -/
theorem Grown.step (hS1 : S.size = 1) (h : Grown S w B s g O D) {q : Nat} {u : SlV} (hq : g[q]? = some u) (nv : SlV) (x : α) (hown : OwnL S w' B nv.val (D q ++ [x])) (hk : KeptBut w w' u.val)
    (hb : u.val.ownBlock = nv.val.ownBlock ∨ nv.val.ownBlock = some w.heap.size) (hsz : w.heap.size ≤ w'.heap.size) (hc : CellsTo w w' u.val ((D q).length * S.size)) :
    Grown S w' B s (g.set q nv) O (updC D q (D q ++ [x])) := by
  have hql : q < g.length := by
    rcases Nat.lt_or_ge q g.length with h | h
    · exact h
    · rw [List.getElem?_eq_none h] at hq; cases hq
  have hset : ∀ p t, (g.set q nv)[p]? = some t → (p = q ∧ t = nv) ∨ (p ≠ q ∧ g[p]? = some t) := by
    intro p t hp
    by_cases hpq : p = q
    · subst hpq
      rw [List.getElem?_set_self hql] at hp
      injection hp with hp
      exact Or.inl ⟨rfl, hp.symm⟩
    · rw [List.getElem?_set_ne (fun e => hpq e.symm)] at hp
      exact Or.inr ⟨hpq, hp⟩
  refine ⟨⟨fun p t hp => ?_, fun p r t v hp hr hpr b hbt => ?_⟩, by rw [List.length_set]; exact h.len, fun p t ht => ⟨(h.old p t ht).1, fun j y hy => ?_⟩, fun p t ht b hb2 => Nat.lt_of_lt_of_le (h.lt p t ht b hb2) hsz, fun p r t v ht hr hpr b hbt => ?_, fun p => ?_⟩
  · rcases hset p t hp with ⟨rfl, rfl⟩ | ⟨hpq, hp⟩
    · rw [updC_same]; exact hown
    · rw [updC_ne hpq]
      exact (h.many.own p t hp).keptNe hk (h.many.apart p q t u hp hq hpq)
  · rcases hset p t hp with ⟨rfl, rfl⟩ | ⟨hpq, hp'⟩ <;> rcases hset r v hr with ⟨rfl, rfl⟩ | ⟨hrq, hr'⟩
    · exact absurd rfl hpr
    · rcases hb with hb | hb
      · exact h.many.apart p r u v hq hr' hpr b (hb.trans hbt)
      · intro e
        have := ((h.many.own r v hr').lt b e).2
        rw [hb] at hbt
        injection hbt with hbt
        omega
    · rcases hb with hb | hb
      · intro e
        exact h.many.apart p r t u hp' hq hpr b hbt (hb.trans e)
      · intro e
        have := ((h.many.own p t hp').lt b hbt).2
        rw [hb] at e
        injection e with e
        omega
    · exact h.many.apart p r t v hp' hr' hpr b hbt
  · obtain ⟨b, v, h1, h2, h3, h4⟩ := (h.old p t ht).2 j y hy
    refine ⟨b, v, h1, Nat.lt_of_lt_of_le h2 hsz, h3, (hc b j h2 fun hbu => ?_).trans h4⟩
    by_cases hpq : p = q
    · subst hpq
      have hj : j < (O p).length := by
        rcases Nat.lt_or_ge j (O p).length with h | h
        · exact h
        · rw [List.getElem?_eq_none h] at hy; cases hy
      have := h.pre p
      rw [hS1]; omega
    · exact absurd hbu (h.apart p q t u ht hq hpq b (by unfold SlV.val; rw [h1]; rfl))
  · rcases hset r v hr with ⟨rfl, rfl⟩ | ⟨hrq, hr⟩
    · rcases hb with hb | hb
      · intro e
        exact h.apart p r t u ht hq hpr b hbt (hb.trans e)
      · intro e
        have := h.lt p t ht b hbt
        rw [hb] at e
        injection e with e
        omega
    · exact h.apart p r t v ht hr hpr b hbt
  · by_cases hpq : p = q
    · subst hpq
      rw [updC_same, List.length_append]
      have := h.pre p
      omega
    · rw [updC_ne hpq]; exact h.pre p
/-- Ahead of all growing. -/
theorem Grown.start (h1 : ∀ y, ∃ v, S.enc y = [v]) (hS1 : S.size = 1) (h : Many S w B s C) : Grown S w B s s C C := by
  refine ⟨h, rfl, fun q t ht => ⟨h.len ht, fun j x hx => ?_⟩, fun q t ht b hb => ((h.own q t ht).lt b hb).2, fun p q t u hp hq hpq => h.apart p q t u hp hq hpq, fun q => Nat.le_refl _⟩
  have hj : j < (C q).length := by
    rcases Nat.lt_or_ge j (C q).length with h | h
    · exact h
    · rw [List.getElem?_eq_none h] at hx; cases hx
  obtain ⟨A, cap, e, _, _, hc⟩ := (h.own q t ht).open_
  obtain ⟨b, hA, _, hlt, hcell⟩ := hc j 0 hj (by omega)
  obtain ⟨v, hv⟩ := h1 x
  have ea : t.a = A := by unfold SlV.val at e; injection e
  refine ⟨b, v, ea.trans hA, hlt, hv, ?_⟩
  have := hcell v (by
    unfold Shape.cells
    have he : ∀ (l : List α) (k : Nat), (l.flatMap S.enc)[k * S.size + 0]? = (l[k]?.map fun y => (S.enc y)).bind fun z => z[0]? := by
      intro l
      induction l with
      | nil => intro k; simp
      | cons y l ih =>
        intro k
        obtain ⟨v', hv'⟩ := h1 y
        rw [hS1] at ih ⊢
        cases k with
        | zero => simp [hv']
        | succ k => simpa [hv'] using ih k
    rw [he, hx]
    simp [hv])
  rw [hS1, Nat.mul_one, Nat.add_zero] at this
  exact this
/-- What is written to a row of another type touches none of it. -/
theorem Grown.keptL {β : Type} {T : Shape β} {B2 : Nat} {u : Value} {m : List β} (h : Grown S w B s g O D) (hu : OwnL T w B2 u m) (hne : S.tE ≠ T.tE) (hk : KeptBut w w' u) (hsz : w.heap.size ≤ w'.heap.size)
    (ho : ∀ (q : Nat) (t : SlV), s[q]? = some t → ∀ b, t.val.ownBlock = some b → u.ownBlock ≠ some b) : Grown S w' B s g O D := by
  refine ⟨h.many.keptL hu hne hk, h.len, fun q t ht => ⟨(h.old q t ht).1, fun j x hx => ?_⟩, fun q t ht b hb2 => Nat.lt_of_lt_of_le (h.lt q t ht b hb2) hsz, h.apart, h.pre⟩
  obtain ⟨b, v, h1, h2, h3, h4⟩ := (h.old q t ht).2 j x hx
  refine ⟨b, v, h1, Nat.lt_of_lt_of_le h2 hsz, h3, (World.cell?_of_block (hk b h2 ?_)).trans h4⟩
  exact ho q t ht b (by unfold SlV.val; rw [h1]; rfl)
end
end Go.Proofs.YtmdpfikalekmlaaGreatDoor
