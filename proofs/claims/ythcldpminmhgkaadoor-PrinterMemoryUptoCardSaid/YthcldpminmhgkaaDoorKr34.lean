/- Merged for a claim by shake.py: Jmg -/
import Derived.Test.YthcldpminmhgkaaDoorKr33
set_option maxRecDepth 100000
set_option maxHeartbeats 1000000
set_option linter.unusedSimpArgs false
set_option linter.unusedVariables false
section
namespace Go.Proofs.YthcldpminmhgkaaDoor
open Go.RowKit
def SameBut (l l2 : List NV) : Prop := l2.length = l.length ∧ ∀ (k : Nat) (x y : NV), l[k]? = some x → l2[k]? = some y → ∃ m : Int, y = { x with n := m }
theorem SameBut.refl (l : List NV) : SameBut l l := ⟨rfl, fun k x y h1 h2 => ⟨x.n, by rw [h1] at h2; injection h2 with h2; rw [← h2]⟩⟩
theorem SameBut.set {l l2 : List NV} (h : SameBut l l2) {j : Nat} {x : NV} (hx : l2[j]? = some x) (z : Int) : SameBut l (l2.set j { x with n := z }) := by
 refine ⟨by rw [List.length_set]; exact h.1, fun k a b ha hb => ?_⟩
 by_cases hk : k = j
 ·subst hk
  have hlt : k < l2.length := by
   rcases Nat.lt_or_ge k l2.length with h | h
   ·exact h
   ·rw [List.getElem?_eq_none h] at hx; cases hx
  rw [List.getElem?_set_self hlt] at hb
  injection hb with hb
  obtain ⟨m, e⟩ := h.2 k a x ha hx
  exact ⟨z, by rw [← hb, e]⟩
 ·rw [List.getElem?_set_ne (fun e => hk e.symm)] at hb
  exact h.2 k a b ha hb
def slOf (s : SlV) : Sl := ⟨s.a, s.n, s.c⟩
mutual
theorem NdW.back {w w2 : World} {B : Nat} {F : Nat → Prop} : ∀ (t : Nd) (x : NV) (is : List SlV) (kss : List (SlV × List NV)), NdW w B t x is kss → (∀ s ∈ is, ∀ l, OwnL folS w B s.val l → ∃ l2, l2.length = l.length ∧ RdF folS w2 F (slOf s) l2) → (∀ s ∈ kss, ∃ l2, SameBut s.2 l2 ∧ RdF ndS w2 F (slOf s.1) l2) → ∀ m : Int, ∃ t', NdR w2 F { x with n := m } t' ∧ bkN t' = bkN t
 | .mk kind field text n lo hi occ ks, x, is, kss, h, hi_, hk, m => by
  unfold NdW at h
  obtain ⟨he, nl, is', kss', rfl, rfl, ho, hl, hr⟩ := h
  obtain ⟨k0, f0, t0, n0, l0, h0, ⟨oa, on, oc⟩, ⟨ka, kn, kc⟩⟩ := x
  simp only [] at he
  obtain ⟨rfl, rfl, rfl, rfl, rfl, rfl⟩ := he
  obtain ⟨occ2, ho1, ho2⟩ := hi_ _ List.mem_cons_self occ ho
  obtain ⟨nl2, hn1, hn2⟩ := hk _ List.mem_cons_self
  obtain ⟨ks', e2, e3⟩ := NdWs.back ks nl is' kss' hr (fun s hs => hi_ s (List.mem_cons_of_mem _ hs)) (fun s hs => hk s (List.mem_cons_of_mem _ hs)) nl2 hn1
  exact ⟨.mk k0 f0 t0 m l0 h0 occ2 ks', .mk ho2 hn2 e3.1 e3.2, by rw [bkN, bkN, ho1, e2]⟩
theorem NdWs.back {w w2 : World} {B : Nat} {F : Nat → Prop} : ∀ (ts : List Nd) (nl : List NV) (is : List SlV) (kss : List (SlV × List NV)), NdWs w B ts nl is kss → (∀ s ∈ is, ∀ l, OwnL folS w B s.val l → ∃ l2, l2.length = l.length ∧ RdF folS w2 F (slOf s) l2) → (∀ s ∈ kss, ∃ l2, SameBut s.2 l2 ∧ RdF ndS w2 F (slOf s.1) l2) → ∀ nl2 : List NV, SameBut nl nl2 → ∃ ts', bkNs ts' = bkNs ts ∧ NdRs w2 F nl2 ts'
 | [], nl, is, kss, h, _, _, nl2, hs => by
  unfold NdWs at h
  obtain ⟨rfl, rfl, rfl⟩ := h
  obtain rfl : nl2 = [] := List.eq_nil_of_length_eq_zero hs.1
  exact ⟨[], rfl, NdRs.nil _ _⟩
 | t :: ts, nl, is, kss, h, hi_, hk, nl2, hs => by
  unfold NdWs at h
  obtain ⟨x, nl', i1, i2, k1, k2, rfl, rfl, rfl, h1, h2⟩ := h
  obtain ⟨hs1, hs2⟩ := hs
  cases nl2 with
  | nil => simp at hs1
  | cons y nl2' =>
   obtain ⟨m, rfl⟩ := hs2 0 x y rfl rfl
   obtain ⟨t', g1, g2⟩ := NdW.back t x i1 k1 h1 (fun s hs => hi_ s (List.mem_append_left _ hs)) (fun s hs => hk s (List.mem_append_left _ hs)) m
   obtain ⟨ts', g3, g4⟩ := NdWs.back ts nl' i2 k2 h2 (fun s hs => hi_ s (List.mem_append_right _ hs)) (fun s hs => hk s (List.mem_append_right _ hs)) nl2' ⟨by simpa using hs1, fun k a b ha hb => hs2 (k + 1) a b (by simpa using ha) (by simpa using hb)⟩
   refine ⟨t' :: ts', by rw [bkNs, bkNs, g2, g3], by rw [List.length_cons, List.length_cons, g4.1], fun i a s ha hs => ?_⟩
   cases i with
   | zero => simp at ha hs; subst ha hs; exact g1
   | succ i => exact g4.2 i a s (by simpa using ha) (by simpa using hs)
end
mutual
theorem NdW.bnd {w : World} {B : Nat} : ∀ (t : Nd) (x : NV) (is : List SlV) (kss : List (SlV × List NV)), NdW w B t x is kss → is.length ≤ bkN t ∧ kss.length ≤ bkN t ∧ (∀ s ∈ is, ∃ l, l.length ≤ bkN t ∧ OwnL folS w B s.val l) ∧ ∀ s ∈ kss, s.2.length ≤ bkN t
 | .mk kind field text n lo hi occ ks, x, is, kss, h => by
  unfold NdW at h
  obtain ⟨he, nl, is', kss', rfl, rfl, ho, hl, hr⟩ := h
  obtain ⟨h1, h2, h3, h4⟩ := NdWs.bnd ks nl is' kss' hr
  have hn := NdWs.len _ _ _ _ hr
  have hk := bkNs_len ks
  rw [bkN]
  refine ⟨by rw [List.length_cons]; omega, by rw [List.length_cons]; omega, fun s hs => ?_, fun s hs => ?_⟩
  ·rcases List.mem_cons.1 hs with rfl | hs
   ·exact ⟨occ, by omega, ho⟩
   ·obtain ⟨l, g1, g2⟩ := h3 s hs
    exact ⟨l, by omega, g2⟩
  ·rcases List.mem_cons.1 hs with rfl | hs
   ·show nl.length ≤ _
    omega
   ·have := h4 s hs
    omega
theorem NdWs.bnd {w : World} {B : Nat} : ∀ (ts : List Nd) (nl : List NV) (is : List SlV) (kss : List (SlV × List NV)), NdWs w B ts nl is kss → is.length ≤ bkNs ts ∧ kss.length ≤ bkNs ts ∧ (∀ s ∈ is, ∃ l, l.length ≤ bkNs ts ∧ OwnL folS w B s.val l) ∧ ∀ s ∈ kss, s.2.length ≤ bkNs ts
 | [], nl, is, kss, h => by
  unfold NdWs at h
  obtain ⟨rfl, rfl, rfl⟩ := h
  exact ⟨Nat.zero_le _, Nat.zero_le _, fun s hs => (by cases hs), fun s hs => (by cases hs)⟩
 | t :: ts, nl, is, kss, h => by
  unfold NdWs at h
  obtain ⟨x, nl', i1, i2, k1, k2, rfl, rfl, rfl, h1, h2⟩ := h
  obtain ⟨a1, a2, a3, a4⟩ := NdW.bnd t x i1 k1 h1
  obtain ⟨b1, b2, b3, b4⟩ := NdWs.bnd ts nl' i2 k2 h2
  rw [bkNs]
  refine ⟨by rw [List.length_append]; omega, by rw [List.length_append]; omega, fun s hs => ?_, fun s hs => ?_⟩
  ·rcases List.mem_append.1 hs with hs | hs
   ·obtain ⟨l, g1, g2⟩ := a3 s hs
    exact ⟨l, by omega, g2⟩
   ·obtain ⟨l, g1, g2⟩ := b3 s hs
    exact ⟨l, by omega, g2⟩
  ·rcases List.mem_append.1 hs with hs | hs
   ·have := a4 s hs
    omega
   ·have := b4 s hs
    omega
end
structure OwnI (w : World) (lo hi : Nat) (x : NV) (t : Nd) (is : List SlV) (kss : List (SlV × List NV)) : Prop where
 nd : NdW w lo t x is kss
 p1 : List.Pairwise FarV (is.map SlV.val)
 p2 : List.Pairwise FarV (kss.map kVal)
 h1 : ∀ s ∈ is, ∀ b, s.val.ownBlock = some b → lo ≤ b ∧ b < hi
 h2 : ∀ s ∈ kss, ∀ b, (kVal s).ownBlock = some b → lo ≤ b ∧ b < hi
theorem OwnT.toI {w : World} {lo : Nat} {x : NV} {t : Nd} (h : OwnT w lo x t) : ∃ is kss, OwnI w lo w.heap.size x t is kss := by
 obtain ⟨is, kss, h1, h2, h3⟩ := h
 have hl := NdW.lt _ _ _ _ h1
 refine ⟨is, kss, h1, h2, h3, fun s hs b he => ?_, fun s hs b he => (hl.2 s hs).ltB b he⟩
 obtain ⟨l, ho⟩ := hl.1 s hs
 exact ho.ltB b he
theorem NdW.belowW {w w' : World} {B : Nat} {t : Nd} {x : NV} {is : List SlV} {kss : List (SlV × List NV)} (h : NdW w B t x is kss) (hb : Below w.heap.size w w') : NdW w' B t x is kss := by
 have hl := NdW.lt _ _ _ _ h
 refine NdW.keep _ _ _ _ h (fun s hs b he => ?_) (fun s hs b he => ?_)
 ·obtain ⟨l, ho⟩ := hl.1 s hs
  exact hb.block b (ho.ltB b he).2
 ·exact hb.block b ((hl.2 s hs).ltB b he).2
theorem OwnI.belowW {w w' : World} {lo hi : Nat} {x : NV} {t : Nd} {is : List SlV} {kss : List (SlV × List NV)} (h : OwnI w lo hi x t is kss) (hb : Below w.heap.size w w') : OwnI w' lo hi x t is kss := ⟨h.nd.belowW hb, h.p1, h.p2, h.h1, h.h2⟩
theorem OwnI.rd {w : World} {lo hi : Nat} {x : NV} {t : Nd} {is : List SlV} {kss : List (SlV × List NV)} (h : OwnI w lo hi x t is kss) : NdR w (rng lo w.heap.size) x t := NdW.rd _ _ _ _ h.nd
theorem three_far {l1 l2 l3 : List Value} {a1 b1 a2 b2 a3 b3 : Nat} (p1 : List.Pairwise FarV l1) (p2 : List.Pairwise FarV l2) (p3 : List.Pairwise FarV l3) (r1 : ∀ u ∈ l1, ∀ b, u.ownBlock = some b → a1 ≤ b ∧ b < b1) (r2 : ∀ u ∈ l2, ∀ b, u.ownBlock = some b → a2 ≤ b ∧ b < b2)
  (r3 : ∀ u ∈ l3, ∀ b, u.ownBlock = some b → a3 ≤ b ∧ b < b3) (h31 : b3 ≤ a1) (h12 : b1 ≤ a2) (h32 : b3 ≤ a2) : List.Pairwise FarV (l1 ++ l2 ++ l3) := by
 rw [List.pairwise_append, List.pairwise_append]
 refine ⟨⟨p1, p2, fun u hu v hv b e1 e2 => ?_⟩, p3, fun u hu v hv b e1 e2 => ?_⟩
 ·have := r1 u hu b e1
  have := r2 v hv b e2
  omega
 ·have h3 := r3 v hv b e2
  rcases List.mem_append.1 hu with hu | hu
  ·have := r1 u hu b e1
   omega
  ·have := r2 u hu b e1
   omega
theorem apart_of {s : List SlV} (hp : List.Pairwise FarV (s.map SlV.val)) : ∀ (p q : Nat) (t u : SlV), s[p]? = some t → s[q]? = some u → p ≠ q → ∀ b, t.val.ownBlock = some b → u.val.ownBlock ≠ some b := by
 have key : ∀ (p q : Nat) (t u : SlV), s[p]? = some t → s[q]? = some u → p < q → FarV t.val u.val := by
  intro p q t u ht hu hpq
  have hq : q < s.length := by
   rcases Nat.lt_or_ge q s.length with h | h
   ·exact h
   ·rw [List.getElem?_eq_none h] at hu; cases hu
  have hpl : p < s.length := by omega
  have := List.pairwise_iff_getElem.1 hp p q (by rw [List.length_map]; exact hpl) (by rw [List.length_map]; exact hq) hpq
  rw [List.getElem_map, List.getElem_map] at this
  rw [List.getElem?_eq_getElem hpl] at ht
  rw [List.getElem?_eq_getElem hq] at hu
  injection ht with ht
  injection hu with hu
  rw [ht, hu] at this
  exact this
 intro p q t u ht hu hpq
 rcases Nat.lt_or_ge p q with h | h
 ·exact key p q t u ht hu h
 ·exact (key q p u t hu ht (by omega)).symm
theorem many_of {α : Type} {S : Shape α} {w : World} {B N : Nat} {s : List SlV} (h : ∀ t ∈ s, ∃ l, l.length ≤ N ∧ OwnL S w B t.val l) (hp : List.Pairwise FarV (s.map SlV.val)) : ∃ C : Nat → List α, Many S w B s C ∧ ∀ q, (C q).length ≤ N := by
 have hc : ∀ q : Nat, ∃ l : List α, l.length ≤ N ∧ ∀ t, s[q]? = some t → OwnL S w B t.val l := fun q => by
  rcases he : s[q]? with _ | t
  ·exact ⟨[], Nat.zero_le _, fun t ht => by cases ht⟩
  ·obtain ⟨l, h1, h2⟩ := h t (List.mem_of_getElem? he)
   exact ⟨l, h1, fun t' e => by injection e with e; subst e; exact h2⟩
 exact ⟨fun q => Classical.choose (hc q), ⟨fun q t ht => (Classical.choose_spec (hc q)).2 t ht, apart_of hp⟩, fun q => (Classical.choose_spec (hc q)).1⟩
def kC (kss : List (SlV × List NV)) (q : Nat) : List NV := ((kss[q]?).map (·.2)).getD []
theorem kC_at {kss : List (SlV × List NV)} {q : Nat} {s : SlV × List NV} (h : kss[q]? = some s) : kC kss q = s.2 := by unfold kC; rw [h]; rfl
theorem many_kss {w : World} {B : Nat} {kss : List (SlV × List NV)} (h : ∀ s ∈ kss, OwnL ndS w B (kVal s) s.2) (hp : List.Pairwise FarV (kss.map kVal)) : Many ndS w B (kss.map (·.1)) (kC kss) := by
 refine ⟨fun q t ht => ?_, apart_of (by rw [List.map_map]; exact hp)⟩
 rw [List.getElem?_map] at ht
 rcases he : kss[q]? with _ | s
 ·rw [he] at ht; cases ht
 ·rw [he] at ht
  injection ht with ht
  subst ht
  rw [kC_at he]
  exact h s (List.mem_of_getElem? he)
def KeptAll (w0 w : World) (sk : List SlV) : Prop := ∀ b, b < w0.heap.size → (∀ t ∈ sk, t.val.ownBlock ≠ some b) → w.heap[b]? = w0.heap[b]?
theorem nd_cells_set : ∀ (l : List NV) (j : Nat) (z : Int) (x : NV), l[j]? = some x → (ndS.cells l).set (j * 12 + 3) (.int .i64 z) = ndS.cells (l.set j { x with n := z })
 | [], j, z, x, h => by simp at h
 | y :: l, 0, z, x, h => by
  simp at h
  subst h
  simp [Shape.cells, ndS, NV.cells]
 | y :: l, j + 1, z, x, h => by
  have ih := nd_cells_set l j z x (by simpa using h)
  have e : ∀ m : List NV, ndS.cells (y :: m) = y.cells ++ ndS.cells m := fun m => by simp [Shape.cells, ndS]
  have hl : y.cells.length = 12 := rfl
  rw [List.set_cons_succ, e, e, ← ih, List.set_append, if_neg (by rw [hl]; omega), hl, show (j + 1) * 12 + 3 - 12 = j * 12 + 3 from by omega]
theorem Many.putN {w : World} {B : Nat} {s : List SlV} {C : Nat → List NV} (h : Many ndS w B s C) {q b n c : Nat} (ht : s[q]? = some ⟨some ⟨b, 0, none⟩, n, c⟩) (j : Nat) (z : Int) {x : NV} (hx : (C q)[j]? = some x) :
  Many ndS (w.setCell ⟨b, j * 12 + 3, none⟩ (.int .i64 z)) B s (updC C q ((C q).set j { x with n := z })) := by
 have ho := h.own q _ ht
 have hn := h.len ht
 simp only [] at hn
 subst hn
 have hst := World.ownsRow.stored (show w.ownsRow B ndS.tE ndS.size (.slice (some ⟨b, 0, none⟩) (C q).length c) (C q).length (ndS.cells (C q)) from ho) (j * 12 + 3) (.int .i64 z)
 refine ⟨fun p t hp => ?_, h.apart⟩
 by_cases hpq : p = q
 ·subst hpq
  rw [ht] at hp
  injection hp with hp
  subst hp
  rw [updC_same]
  unfold OwnL
  rw [List.length_set, ← nd_cells_set _ _ _ _ hx]
  exact hst.1
 ·rw [updC_ne hpq]
  refine (h.own p t hp).keptNe (u := .slice (some ⟨b, 0, none⟩) (C q).length c) (fun k hk hne => hst.2.block k hk (fun e => hne e.symm)) fun k hk => ?_
  exact h.apart p q t _ hp ht hpq k hk
def nkF (i j : Nat) : Int := 1000003 * (i : Int) + (j : Int)
def N1 (w0 : World) (B : Nat) (v : Value) (sk : List SlV) (C : Nat → List NV) (k j : Nat) (w : World) : Prop :=
 ∃ C' : Nat → List NV, (∀ q, SameBut (C q) (C' q)) ∧ (∀ q, q < k → ∀ (i : Nat) (x : NV), (C' q)[i]? = some x → x.n = nkF q i) ∧ (∀ i, i < j → ∀ x : NV, (C' k)[i]? = some x → x.n = nkF k i) ∧ Many ndS w B sk C' ∧ OwnL gkS w B v sk ∧ Below B w0 w ∧ KeptAll w0 w sk
section
variable {w0 w w' : World} {B k j i : Nat} {v vv : Value} {sk : List SlV} {C : Nat → List NV}
theorem N1.outer (h : N1 w0 B v sk C k j w) : OwnL gkS w B v sk := h.elim fun _ h => h.2.2.2.2.1
theorem N1.bel (h : N1 w0 B v sk C k j w) : Below B w0 w := h.elim fun _ h => h.2.2.2.2.2.1
theorem N1.len (h : N1 w0 B v sk C k j w) {t : SlV} (ht : sk[k]? = some t) : t.n = (C k).length := by
 obtain ⟨C', h1, _, _, h4, _⟩ := h
 rw [h4.len ht, (h1 k).1]
theorem at_nd {w : World} {B n cap : Nat} {A : Option Addr} {l : List NV} (h : OwnL ndS w B (.slice A n cap) l) {k : Nat} (hk : k < l.length) :
  ∃ g, A = some ⟨g, 0, none⟩ ∧ g < w.heap.size ∧ w.cell? ⟨g, k * 12 + 3, none⟩ = some (.int .i64 l[k].n) ∧ w.frozen? ⟨g, k * 12 + 3, none⟩ = false := by
 obtain ⟨g, rfl, hc⟩ := h.at_ ndOk hk
 have h2 := h
 obtain ⟨A', cap', e, _⟩ := h2.form
 injection e with _ e2 _
 subst e2
 refine ⟨g, rfl, (h.ltB g rfl).2, ?_, World.ownsRow.frozenAt h (k * 12 + 3)⟩
 exact hc 3 (.int .i64 l[k].n) (by decide) rfl
theorem N1.cell (h : N1 w0 B v sk C k j w) {A : Option Addr} {n c : Nat} (ht : sk[k]? = some ⟨A, n, c⟩) (hj : j < (C k).length) : ∃ b x, A = some ⟨b, 0, none⟩ ∧ b < w.heap.size ∧ w.cell? ⟨b, j * 12 + 3, none⟩ = some x ∧ w.frozen? ⟨b, j * 12 + 3, none⟩ = false := by
 obtain ⟨C', h1, _, _, h4, _⟩ := h
 obtain ⟨b, e, hb, hc, hf⟩ := at_nd (h4.own k _ ht) (k := j) (by rw [(h1 k).1]; exact hj)
 exact ⟨b, _, e, hb, hc, hf⟩
theorem N1.put (h : N1 w0 B v sk C k j w) (hB : B ≤ w0.heap.size) {b n c : Nat} (ht : sk[k]? = some ⟨some ⟨b, 0, none⟩, n, c⟩) (hj : j < (C k).length) : N1 w0 B v sk C k (j + 1) (w.setCell ⟨b, j * 12 + 3, none⟩ (.int .i64 (nkF k j))) := by
 obtain ⟨C', h1, h2, h3, h4, h5, h6, h7⟩ := h
 have ho := h4.own k _ ht
 have hl := h4.len ht
 simp only [] at hl
 subst hl
 have hjl : j < (C' k).length := by rw [(h1 k).1]; exact hj
 have hx : (C' k)[j]? = some (C' k)[j] := List.getElem?_eq_getElem hjl
 have hst := World.ownsRow.stored (show w.ownsRow B ndS.tE ndS.size (.slice (some ⟨b, 0, none⟩) (C' k).length c) (C' k).length (ndS.cells (C' k)) from ho) (j * 12 + 3) (.int .i64 (nkF k j))
 refine ⟨updC C' k ((C' k).set j { (C' k)[j] with n := nkF k j }), fun q => ?_, fun q hq => ?_, fun i hi x hxi => ?_, h4.putN ht j _ hx, ?_, ?_, ?_⟩
 ·by_cases hqk : q = k
  ·subst hqk; rw [updC_same]; exact (h1 q).set hx _
  ·rw [updC_ne hqk]; exact h1 q
 ·rw [updC_ne (by omega)]; exact h2 q hq
 ·rw [updC_same] at hxi
  by_cases hij : i = j
  ·subst hij
   rw [List.getElem?_set_self hjl] at hxi
   injection hxi with hxi
   rw [← hxi]
  ·rw [List.getElem?_set_ne (fun e => hij e.symm)] at hxi
   exact h3 i (by omega) x hxi
 ·exact h5.keptL ho (by decide) (fun z hz hne => hst.2.block z hz (fun e => hne e.symm))
 ·exact h6.grown hst.2 (Nat.le_trans hB h6.size) (fun g hg => by injection hg with hg; subst hg; exact (ho.ltB b rfl).1)
 ·intro z hz hn
  rw [← h7 z hz hn]
  exact hst.2.block z (Nat.lt_of_lt_of_le hz h6.size) (fun e => hn _ (List.mem_of_getElem? ht) e.symm)
theorem N1.next (h : N1 w0 B v sk C k j w) (hj : j = (C k).length) : N1 w0 B v sk C (k + 1) 0 w := by
 obtain ⟨C', h1, h2, h3, h4⟩ := h
 refine ⟨C', h1, fun q hq i x hx => ?_, fun i hi => by omega, h4⟩
 by_cases hqk : q = k
 ·subst hqk
  refine h3 i ?_ x hx
  have : i < (C' q).length := by
   rcases Nat.lt_or_ge i (C' q).length with h | h
   ·exact h
   ·rw [List.getElem?_eq_none h] at hx; cases hx
  rw [(h1 q).1] at this
  omega
 ·exact h2 q (by omega) i x hx
structure N2 (w0 : World) (B : Nat) (v : Value) (sk : List SlV) (C : Nat → List NV) (i : Nat) (w : World) : Prop where
 outer : OwnL gkS w B v sk
 fit : ∀ (q : Nat) (t : SlV), sk[q]? = some t → t.n = (C q).length ∧ t.n ≤ t.c ∧ t.c ≤ maxLen ∧ (t.a = none → t.c = 0)
 rd : ∀ (q : Nat) (t : SlV), sk[q]? = some t → ∀ (c : Nat) (u : Value), (ndS.cells (C q))[c]? = some u → ∃ b, t.a = some ⟨b, 0, none⟩ ∧ b < w.heap.size ∧ w.cell? ⟨b, c, none⟩ = some u
 own : ∀ (q : Nat) (t : SlV), i ≤ q → sk[q]? = some t → OwnL ndS w B t.val (C q)
 lt : ∀ (q : Nat) (t : SlV), sk[q]? = some t → ∀ b, t.val.ownBlock = some b → b < w.heap.size
 apart : ∀ (p q : Nat) (t u : SlV), sk[p]? = some t → sk[q]? = some u → p ≠ q → ∀ b, t.val.ownBlock = some b → u.val.ownBlock ≠ some b
 bel : Below B w0 w
 hB : B ≤ w0.heap.size
 kept : KeptAll w0 w sk
theorem nd_cells_len (l : List NV) : (ndS.cells l).length = l.length * 12 := Shape.cells_length ndOk l
theorem N2.start (hB : B ≤ w0.heap.size) (h : Many ndS w B sk C) (ho : OwnL gkS w B v sk) (hb : Below B w0 w) (hk : KeptAll w0 w sk) : N2 w0 B v sk C 0 w := by
 refine ⟨ho, fun q t ht => ?_, fun q t ht c u hu => ?_, fun q t _ ht => h.own q t ht, fun q t ht b hb => ((h.own q t ht).ltB b hb).2, h.apart, hb, hB, hk⟩
 ·obtain ⟨a, n, c⟩ := t
  have hr := RdF.of_own (F := fun _ => True) (h.own q _ ht) (fun _ _ _ _ => trivial)
  exact ⟨hr.1, hr.2.1, hr.2.2.1, hr.2.2.2.2⟩
 ·obtain ⟨A, cap, e, _, _, hc⟩ := (h.own q t ht).open_
  have hlt : c < (C q).length * 12 := by
   rw [← nd_cells_len]
   rcases Nat.lt_or_ge c (ndS.cells (C q)).length with h | h
   ·exact h
   ·rw [List.getElem?_eq_none h] at hu; cases hu
  obtain ⟨b, hA, _, hlt2, hcell⟩ := hc (c / 12) (c % 12) (by omega) (by show c % 12 < 12; omega)
  have e12 : c / 12 * ndS.size + c % 12 = c := by show c / 12 * 12 + c % 12 = c; omega
  rw [e12] at hcell
  have ea : t.a = A := by unfold SlV.val at e; injection e
  exact ⟨b, ea.trans hA, hlt2, hcell u hu⟩
theorem N2.below (h : N2 w0 B v sk C i w) (hb : Below w.heap.size w w') : N2 w0 B v sk C i w' := by
 have hs := h.bel.size
 refine ⟨h.outer.below hb, h.fit, fun q t ht c u hu => ?_, fun q t hq ht => (h.own q t hq ht).below hb, fun q t ht b e => Nat.lt_of_lt_of_le (h.lt q t ht b e) hb.size, h.apart, h.bel.trans (hb.mono (Nat.le_trans h.hB hs)), h.hB, fun b hb2 hn => (hb.block b (by omega)).trans (h.kept b hb2 hn)⟩
 obtain ⟨b, e1, e2, e3⟩ := h.rd q t ht c u hu
 exact ⟨b, e1, Nat.lt_of_lt_of_le e2 hb.size, (hb.cell e2).trans e3⟩
theorem N2.drop (h : N2 w0 B v sk C i w) : N2 w0 B v sk C (i + 1) w := { h with own := fun q t hq ht => h.own q t (by omega) ht }
structure N3 (w0 : World) (B : Nat) (v : Value) (sk : List SlV) (C : Nat → List NV) (i : Nat) (vv : Value) (j : Nat) (w : World) : Prop where
 base : N2 w0 B v sk C (i + 1) w
 vown : ∃ E : List NV, E.length = j ∧ OwnL ndS w B vv (C i ++ E)
 vfar : ∀ b, vv.ownBlock = some b → (∃ t, sk[i]? = some t ∧ t.val.ownBlock = some b) ∨ (w0.heap.size ≤ b ∧ ∀ (q : Nat) (t : SlV), sk[q]? = some t → t.val.ownBlock ≠ some b)
theorem N3.start (h : N2 w0 B v sk C i w) {t : SlV} (ht : sk[i]? = some t) : N3 w0 B v sk C i t.val 0 w :=
 ⟨h.drop, ⟨[], rfl, by rw [List.append_nil]; exact h.own i t (Nat.le_refl _) ht⟩, fun b hb => .inl ⟨t, ht, hb⟩⟩
theorem N3.below (h : N3 w0 B v sk C i vv j w) (hb : Below w.heap.size w w') : N3 w0 B v sk C i vv j w' := by
 obtain ⟨E, h1, h2⟩ := h.vown
 exact ⟨h.base.below hb, ⟨E, h1, h2.below hb⟩, h.vfar⟩
theorem N3.step {g n c : Nat} {E : List NV} {x : NV} (h : N3 w0 B v sk C i vv j w) (hE : E.length = j) (ho : OwnL ndS w B vv (C i ++ E)) (h2 : OwnL ndS w' B (.slice (some ⟨g, 0, none⟩) n c) (C i ++ E ++ [x])) (h3 : Below B w w') (hk : KeptBut w w' vv) (h4 : vv.ownBlock = some g ∨ g = w.heap.size)
  (h6 : CellsTo w w' vv ((C i ++ E).length * ndS.size)) : N3 w0 B v sk C i (.slice (some ⟨g, 0, none⟩) n c) (j + 1) w' := by
 have hs := h.base.bel.size
 have hne : ∀ (q : Nat) (t : SlV), sk[q]? = some t → ∀ b, t.val.ownBlock = some b → vv.ownBlock = some b → q = i := by
  intro q t ht b hb hv
  rcases h.vfar b hv with ⟨t', ht', hb'⟩ | ⟨_, hn⟩
  ·exact Classical.byContradiction fun hqi => h.base.apart q i t t' ht ht' hqi b hb hb'
  ·exact absurd hb (hn q t ht)
 refine ⟨⟨h.base.outer.keptL ho (by decide) hk, h.base.fit, fun q t ht c' u hu => ?_, fun q t hq ht => ?_, fun q t ht b e => Nat.lt_of_lt_of_le (h.base.lt q t ht b e) h3.size, h.base.apart, h.base.bel.trans h3, h.base.hB, fun b hb hn => ?_⟩, ⟨E ++ [x], by rw [List.length_append, hE]; rfl, by rw [← List.append_assoc]; exact h2⟩, fun b hb => ?_⟩
 ·obtain ⟨b, e1, e2, e3⟩ := h.base.rd q t ht c' u hu
  refine ⟨b, e1, Nat.lt_of_lt_of_le e2 h3.size, (h6 b c' e2 fun hv => ?_).trans e3⟩
  have hqi := hne q t ht b (by unfold SlV.val; rw [e1]; rfl) hv
  subst hqi
  have hlt : c' < (ndS.cells (C q)).length := by
   rcases Nat.lt_or_ge c' (ndS.cells (C q)).length with h | h
   ·exact h
   ·rw [List.getElem?_eq_none h] at hu; cases hu
  rw [nd_cells_len] at hlt
  have e12 : ndS.size = 12 := rfl
  rw [e12, List.length_append]
  omega
 ·exact (h.base.own q t hq ht).keptNe hk fun b hb hv => by have := hne q t ht b hb hv; omega
 ·rw [hk b (by omega) fun hv => ?_]
  ·exact h.base.kept b hb hn
  ·rcases h.vfar b hv with ⟨t', ht', hb'⟩ | ⟨hge, _⟩
   ·exact hn t' (List.mem_of_getElem? ht') hb'
   ·omega
 ·injection hb with hb
  have hgb : g = b := hb
  clear hb
  subst hgb
  rcases h4 with h4 | h4
  ·exact h.vfar _ h4
  ·refine .inr ⟨by omega, fun q t ht e => ?_⟩
   have := h.base.lt q t ht _ e
   omega
theorem N2.num (h : N2 w0 B v sk C i w) {q : Nat} (hn : ∀ (i : Nat) (x : NV), (C q)[i]? = some x → x.n = nkF q i) {A : Option Addr} {n c : Nat} (ht : sk[q]? = some ⟨A, n, c⟩) {j : Nat} (hj : j < n) : ∃ b, A = some ⟨b, 0, none⟩ ∧ b < w.heap.size ∧ w.cell? ⟨b, j * 12 + 3, none⟩ = some (.int .i64 (nkF q j)) := by
 have hf := (h.fit q _ ht).1
 simp only [] at hf
 have hjl : j < (C q).length := by omega
 have hx : (C q)[j]? = some (C q)[j] := List.getElem?_eq_getElem hjl
 refine h.rd q _ ht (j * 12 + 3) _ ?_
 rw [← hn j _ hx]
 have key : ∀ (l : List NV) (j : Nat) (x : NV), l[j]? = some x → (ndS.cells l)[j * 12 + 3]? = some (.int .i64 x.n) := by
  intro l
  induction l with
  | nil => intro j x h; simp at h
  | cons y l ih =>
   intro j x h
   have e : ndS.cells (y :: l) = y.cells ++ ndS.cells l := by simp [Shape.cells, ndS]
   rw [e]
   cases j with
   | zero => simp at h; subst h; rfl
   | succ j =>
    rw [List.getElem?_append_right (by show 12 ≤ _; omega)]
    rw [show (j + 1) * 12 + 3 - y.cells.length = j * 12 + 3 from by show (j + 1) * 12 + 3 - 12 = _; omega]
    exact ih j x (by simpa using h)
 exact key _ _ _ hx
theorem N2.rdF (h : N2 w0 B v sk C i w) {q : Nat} {t : SlV} (ht : sk[q]? = some t) : RdF ndS w (fun b => b < w.heap.size) (slOf t) (C q) := by
 obtain ⟨f1, f2, f3, f4⟩ := h.fit q t ht
 refine ⟨f1, f2, f3, fun hn => ?_, f4⟩
 have h0 : 0 < (ndS.cells (C q)).length := by rw [nd_cells_len]; omega
 obtain ⟨b, e1, e2, _⟩ := h.rd q t ht 0 _ (List.getElem?_eq_getElem h0)
 refine ⟨⟨b, 0, none⟩, e1, e2, fun j u hu => ?_⟩
 obtain ⟨b', e1', e2', e3'⟩ := h.rd q t ht j u hu
 rw [e1] at e1'
 injection e1' with e1'
 injection e1' with e1' _ _
 subst e1'
 rw [show (⟨b, 0, none⟩ : Addr).add j = ⟨b, j, none⟩ from by unfold Addr.add; split <;> simp_all]
 exact e3'
end
theorem Grown.rdF {w w' : World} {B B0 : Nat} {s g : List SlV} {O D : Nat → List Int} (h : Grown moS w' B s g O D) {q : Nat} {t : SlV} (ht : s[q]? = some t) {l : List Int} (ho : OwnL folS w B0 t.val l) : ∃ l2, l2.length = l.length ∧ RdF folS w' (fun b => t.val.ownBlock = some b ∧ b < w'.heap.size) (slOf t) l2 := by
 obtain ⟨f0, f1⟩ := h.old q t ht
 obtain ⟨a, n, c⟩ := t
 have hr := RdF.of_own (F := fun _ => True) (show OwnL folS w B0 (.slice a n c) l from ho) (fun _ _ _ _ => trivial)
 simp only [] at f0
 have hn : n = l.length := hr.1
 refine ⟨O q, by omega, f0, hr.2.1, hr.2.2.1, fun h0 => ?_, hr.2.2.2.2⟩
 obtain ⟨b, v, e1, e2, _, _⟩ := f1 0 _ (List.getElem?_eq_getElem h0)
 simp only [] at e1
 refine ⟨⟨b, 0, none⟩, e1, ⟨by rw [e1]; rfl, e2⟩, fun j u hu => ?_⟩
 have hj : j < (O q).length := by
  rcases Nat.lt_or_ge j (folS.cells (O q)).length with h | h
  ·rw [Shape.cells_length folOk] at h
   have e1 : folS.size = 1 := rfl
   rw [e1] at h
   omega
  ·rw [List.getElem?_eq_none h] at hu; cases hu
 obtain ⟨b', v', e1', e2', e3', e4'⟩ := f1 j _ (List.getElem?_eq_getElem hj)
 have e5 := e1.symm.trans e1'
 injection e5 with e5
 injection e5 with e5 _ _
 subst e5
 rw [show (⟨b, 0, none⟩ : Addr).add j = ⟨b, j, none⟩ from by unfold Addr.add; split <;> simp_all, e4']
 have key : ∀ (l : List Int) (j : Nat) (hj : j < l.length), (folS.cells l)[j]? = some (.int .i64 l[j]) := by
  intro l
  induction l with
  | nil => intro j hj; simp at hj
  | cons y l ih =>
   intro j hj
   have e : folS.cells (y :: l) = .int .i64 y :: folS.cells l := by simp [Shape.cells, folS]
   rw [e]
   cases j with
   | zero => rfl
   | succ j => exact ih j (by simpa using hj)
 rw [key _ _ hj] at hu
 injection e3' with e3' _
 rw [← e3']
 exact hu
theorem OwnL.appendTo {α : Type} {S : Shape α} (hS : S.Ok) {w : World} {B : Nat} {v : Value} {l : List α} (h : OwnL S w B v l) (x : α) (nb : Nat) {ops : Array Oper} {rest : List Oper} {o : Oper} {a : Act} {Q : Exit → Act → World → Prop} (hgd : o.guard = none) (s y : Operand)
  (ho : o.op = .call { callee := .builtin .append, args := #[s, y], argTypes := #[S.tS, S.tS] }) (hs : a.eval s = v) (hy : a.eval y = .slice (some ⟨nb, 0, none⟩) 1 1) (hnb : ∀ j u, (S.enc x)[j]? = some u → w.cell? ⟨nb, j, none⟩ = some u) (hB : B ≤ w.heap.size) (hl : l.length + 1 ≤ 970000000000)
  (k : ∀ g cap w', OwnL S w' B (.slice (some ⟨g, 0, none⟩) (l.length + 1) cap) (l ++ [x]) → Below B w w' → KeptBut w w' v → (v.ownBlock = some g ∨ g = w.heap.size) → g < w'.heap.size → CellsTo w w' v (l.length * S.size) → wpList Tryd.prog ops Q rest (a.put o.dst (.slice (some ⟨g, 0, none⟩) (l.length + 1) cap)) w') :
  wpList Tryd.prog ops Q (o :: rest) a w :=
 wpList_plain hgd fun K hK => by
  have h2 := OwnL.stepAppendTo (ops := ops) (Q := Q) hS h x nb (K := K) (E := False) hgd s y ho hs hy hnb hB hl (fun g cap w' h1 h2 h3 h4 h5 h6 => hK _ _ (k g cap w' h1 h2 h3 h4 h5 h6))
  rwa [if_pos (by simp [Region.wanted, hgd])] at h2
theorem OwnL.kty {α : Type} {S : Shape α} {e : TypeId} {w w' : World} {B : Nat} {v : Value} {l : List α} (h : OwnL S w B v l) (hk : KTy e w w') (hne : S.tE ≠ e) : OwnL S w' B v l :=
 h.same fun b hb => by
  obtain ⟨cur, hc⟩ := own_block h hb
  exact (hk.blk hc hne).trans hc.symm
theorem Many.kty {α : Type} {S : Shape α} {e : TypeId} {w w' : World} {B : Nat} {s : List SlV} {C : Nat → List α} (h : Many S w B s C) (hk : KTy e w w') (hne : S.tE ≠ e) : Many S w' B s C := ⟨fun q t ht => (h.own q t ht).kty hk hne, h.apart⟩
theorem at_gk {w : World} {B n cap : Nat} {A : Option Addr} {s : List SlV} (h : OwnL gkS w B (.slice A n cap) s) {k : Nat} (hk : k < s.length) :
  ∃ g, A = some ⟨g, 0, none⟩ ∧ w.cell? ⟨g, k, none⟩ = some (.slice s[k].a s[k].n s[k].c) ∧ g < w.heap.size := by
 obtain ⟨g, rfl, hc⟩ := h.at_ gkOk hk
 refine ⟨g, rfl, ?_, (h.ltB g rfl).2⟩
 have := hc 0 (s[k].val) (by decide) rfl
 simpa [gkS, SlV.val] using this
def GaS (B : Nat) (w : World) (u v : Value) (li lk : List SlV) (e : Ending) (w' : World) : Prop := ∃ (ua : Option Addr) (un uc : Nat) (va : Option Addr) (vn vc : Nat),
 e = .returned (.tuple #[.slice ua un uc, .slice va vn vc]) ∧ OwnL goS w' B (.slice ua un uc) li ∧ OwnL gkS w' B (.slice va vn vc) lk ∧ Ga B w u v w' (.slice ua un uc) (.slice va vn vc)
theorem gather_as {t : Nd} {w : World} {B Bt : Nat} {x : NV} {is : List SlV} {kss : List (SlV × List NV)} {u v : Value} {li lk li2 lk2 : List SlV} (h : NdW w Bt t x is kss) (hu : OwnL goS w B u li) (hv : OwnL gkS w B v lk) (hB : B ≤ w.heap.size) (h1 : li.length + is.length ≤ 960000000000) (h2 : lk.length + kss.length ≤ 960000000000)
  (e1 : li ++ is = li2) (e2 : lk ++ kss.map (·.1) = lk2) : Calls Tryd.prog 23 #[x.val, u, v] w (GaS B w u v li2 lk2) := by
 subst e1 e2
 exact (gather_any t w B Bt x is kss u v li lk h hu hv hB h1 h2).mono fun e w' ⟨ua, uc, va, vc, h⟩ => ⟨ua, _, uc, va, _, vc, h⟩
theorem ints_many {w : World} {aA bA aD bD aI bI B : Nat} {xA xD xI : NV} {tA tD tI : Nd} {isA isD isI s : List SlV} {ksA ksD ksI : List (SlV × List NV)} (hA : OwnI w aA bA xA tA isA ksA) (hD : OwnI w aD bD xD tD isD ksD) (hI : OwnI w aI bI xI tI isI ksI)
  (o1 : bI ≤ aA) (o2 : bA ≤ aD) (o3 : bI ≤ aD) (l1 : B ≤ aA) (l2 : B ≤ aD) (l3 : B ≤ aI) (n1 : bkN tA ≤ 300000000000) (n2 : bkN tD ≤ 300000000000) (n3 : bkN tI ≤ 300000000000) (hs : isA ++ isD ++ isI = s) : ∃ C, Many moS w B s C ∧ ∀ q, (C q).length ≤ 300000000000 := by
 subst hs
 refine many_of (fun t ht => ?_) ?_
 ·have key : ∀ {a b : Nat} {x : NV} {T : Nd} {is : List SlV} {ks : List (SlV × List NV)}, OwnI w a b x T is ks → B ≤ a → bkN T ≤ 300000000000 → t ∈ is → ∃ l : List Int, l.length ≤ 300000000000 ∧ OwnL moS w B t.val l := by
   intro a b x T is ks h hl hn hm
   obtain ⟨l, g1, g2⟩ := (NdW.bnd _ _ _ _ h.nd).2.2.1 t hm
   exact ⟨l, by omega, (OwnL.more (S := moS) g2 hl)⟩
  rcases List.mem_append.1 ht with ht | ht
  ·rcases List.mem_append.1 ht with ht | ht
   ·exact key hA l1 n1 ht
   ·exact key hD l2 n2 ht
  ·exact key hI l3 n3 ht
 ·rw [List.map_append, List.map_append]
  have key : ∀ {a b : Nat} {x : NV} {T : Nd} {is : List SlV} {ks : List (SlV × List NV)}, OwnI w a b x T is ks → ∀ u ∈ is.map SlV.val, ∀ c, u.ownBlock = some c → a ≤ c ∧ c < b := by
   intro a b x T is ks h u hu c hc
   obtain ⟨t, ht, rfl⟩ := List.mem_map.1 hu
   exact h.h1 t ht c hc
  exact three_far hA.p1 hD.p1 hI.p1 (key hA) (key hD) (key hI) o1 o2 o3
theorem kids_many {w : World} {aA bA aD bD aI bI B : Nat} {xA xD xI : NV} {tA tD tI : Nd} {isA isD isI : List SlV} {ksA ksD ksI ks : List (SlV × List NV)} (hA : OwnI w aA bA xA tA isA ksA) (hD : OwnI w aD bD xD tD isD ksD) (hI : OwnI w aI bI xI tI isI ksI)
  (o1 : bI ≤ aA) (o2 : bA ≤ aD) (o3 : bI ≤ aD) (l1 : B ≤ aA) (l2 : B ≤ aD) (l3 : B ≤ aI) (hs : ksA ++ ksD ++ ksI = ks) : Many ndS w B (ks.map (·.1)) (kC ks) := by
 subst hs
 refine many_kss (fun s hs => ?_) ?_
 ·rcases List.mem_append.1 hs with hs | hs
  ·rcases List.mem_append.1 hs with hs | hs
   ·exact ((NdW.lt _ _ _ _ hA.nd).2 s hs).more l1
   ·exact ((NdW.lt _ _ _ _ hD.nd).2 s hs).more l2
  ·exact ((NdW.lt _ _ _ _ hI.nd).2 s hs).more l3
 ·rw [List.map_append, List.map_append]
  have key : ∀ {a b : Nat} {x : NV} {T : Nd} {is : List SlV} {ks : List (SlV × List NV)}, OwnI w a b x T is ks → ∀ u ∈ ks.map kVal, ∀ c, u.ownBlock = some c → a ≤ c ∧ c < b := by
   intro a b x T is ks h u hu c hc
   obtain ⟨t, ht, rfl⟩ := List.mem_map.1 hu
   exact h.h2 t ht c hc
  exact three_far hA.p2 hD.p2 hI.p2 (key hA) (key hD) (key hI) o1 o2 o3
theorem kids_len {w : World} {aA bA aD bD aI bI : Nat} {xA xD xI : NV} {tA tD tI : Nd} {isA isD isI : List SlV} {ksA ksD ksI ks : List (SlV × List NV)} (hA : OwnI w aA bA xA tA isA ksA) (hD : OwnI w aD bD xD tD isD ksD) (hI : OwnI w aI bI xI tI isI ksI)
  (n1 : bkN tA ≤ 300000000000) (n2 : bkN tD ≤ 300000000000) (n3 : bkN tI ≤ 300000000000) (hs : ksA ++ ksD ++ ksI = ks) : (∀ q, (kC ks q).length ≤ 300000000000) ∧ isA.length ≤ 300000000000 ∧ isD.length ≤ 300000000000 ∧ isI.length ≤ 300000000000 ∧ ksA.length ≤ 300000000000 ∧ ksD.length ≤ 300000000000 ∧ ksI.length ≤ 300000000000 := by
 subst hs
 have bA := NdW.bnd _ _ _ _ hA.nd
 have bD := NdW.bnd _ _ _ _ hD.nd
 have bI := NdW.bnd _ _ _ _ hI.nd
 refine ⟨fun q => ?_, by omega, by omega, by omega, by omega, by omega, by omega⟩
 rcases he : (ksA ++ ksD ++ ksI)[q]? with _ | s
 ·unfold kC; rw [he]; exact Nat.zero_le _
 ·rw [kC_at he]
  have hs := List.mem_of_getElem? he
  rcases List.mem_append.1 hs with hs | hs
  ·rcases List.mem_append.1 hs with hs | hs
   ·have := bA.2.2.2 s hs; omega
   ·have := bD.2.2.2 s hs; omega
  ·have := bI.2.2.2 s hs; omega
theorem in_back {w3 w4 w5 : World} {B lo hi i : Nat} {v : Value} {x : NV} {t : Nd} {isI s gl : List SlV} {ksI ks : List (SlV × List NV)} {O D : Nat → List Int} {C' : Nat → List NV} {pi : List SlV} {pk : List (SlV × List NV)} (hI : OwnI w3 lo hi x t isI ksI) (hs : pi ++ isI = s) (hks : pk ++ ksI = ks)
  (hM : Many ndS w3 B (ks.map (·.1)) (kC ks)) (hg : Grown moS w4 B s gl O D) (h2 : N2 w4 B v (ks.map (·.1)) C' i w5) (hC : ∀ q, SameBut (kC ks q) (C' q)) : ∃ t', NdR w5 (fun b => b < w5.heap.size) x t' ∧ bkN t' = bkN t := by
 subst hs hks
 have hsz := h2.bel.size
 have hb := NdW.back (w2 := w5) (F := fun b => b < w5.heap.size) t x isI ksI hI.nd (fun u hu l hl => ?_) (fun u hu => ?_) x.n
 ·obtain ⟨k0, f0, t0, n0, l0, h0, o0, d0⟩ := x
  exact hb
 ·obtain ⟨q, hq, rfl⟩ := List.mem_iff_getElem.1 hu
  have ht : (pi ++ isI)[pi.length + q]? = some isI[q] := by
   rw [List.getElem?_append_right (by omega), Nat.add_sub_cancel_left]
   exact List.getElem?_eq_getElem hq
  obtain ⟨l2, e1, e2⟩ := hg.rdF ht hl
  refine ⟨l2, e1, (e2.keep fun p hp hlt => World.cell?_of_block (h2.kept p.block hlt fun u hu2 he => ?_)).mono fun b hb => by have := hb.2; omega⟩
  obtain ⟨r, hr, rfl⟩ := List.mem_iff_getElem.1 hu2
  exact hl.diff (hM.own r _ (List.getElem?_eq_getElem hr)) (by decide) p.block hp.1 he
 ·obtain ⟨q, hq, rfl⟩ := List.mem_iff_getElem.1 hu
  have ht : (pk ++ ksI)[pk.length + q]? = some ksI[q] := by
   rw [List.getElem?_append_right (by omega), Nat.add_sub_cancel_left]
   exact List.getElem?_eq_getElem hq
  refine ⟨C' (pk.length + q), ?_, h2.rdF (q := pk.length + q) (by rw [List.getElem?_map, ht]; rfl)⟩
  have := hC (pk.length + q)
  rw [kC_at ht] at this
  exact this
end Go.Proofs.YthcldpminmhgkaaDoor
end
