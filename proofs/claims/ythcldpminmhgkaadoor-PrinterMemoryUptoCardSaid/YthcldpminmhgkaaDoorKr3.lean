/- Merged for a claim by shake.py: Wmo -/
import Derived.Test.YthcldpminmhgkaaDoorKrA
import Derived.BigQuiet
import Derived.Deep.QuietTactic
import Derived.Deep.RegionLaw
import Derived.Test.YthcldpminmhgkaaDoorKr1
import Derived.Test.YthcldpminmhgkaaDoorKr2
set_option maxRecDepth 100000
set_option maxHeartbeats 4000000
set_option linter.unusedSimpArgs false
set_option linter.unusedVariables false
section
namespace Go.Proofs.YthcldpminmhgkaaDoor
open Go.RowKit
def moS : Shape Int := { tS := 24, tE := 3, size := 1, bytes := 8, enc := fun x => [.int .i64 x], zero := .int .i64 0 }
theorem moS_ok : moS.Ok := ⟨by kernel_rfl, by kernel_rfl, rfl, by decide, fun _ => rfl, fun x u hu => by simp [moS] at hu; subst hu; rfl, by decide⟩
def goS : Shape SlV := { tS := 47, tE := 24, size := 1, bytes := 24, enc := fun s => [s.val], zero := .slice none 0 0 }
theorem goS_ok : goS.Ok := ⟨by kernel_rfl, by kernel_rfl, rfl, by decide, fun _ => rfl, fun x u hu => by simp [goS] at hu; subst hu; rfl, by decide⟩
theorem mo_enc : ∀ y : Int, ∃ v, moS.enc y = [v] := fun y => ⟨_, rfl⟩
theorem at_go {w : World} {B n cap : Nat} {A : Option Addr} {s : List SlV} (h : OwnL goS w B (.slice A n cap) s) {k : Nat} (hk : k < s.length) :
  ∃ g, A = some ⟨g, 0, none⟩ ∧ w.cell? ⟨g, k, none⟩ = some (.slice s[k].a s[k].n s[k].c) ∧ w.frozen? ⟨g, k, none⟩ = false := by
 obtain ⟨g, rfl, hc⟩ := h.at_ goS_ok hk
 refine ⟨g, rfl, ?_, ?_⟩
 ·have := hc 0 (s[k].val) (by decide) rfl
  simpa [goS, SlV.val] using this
 ·have h2 := h
  obtain ⟨A', cap', e, _⟩ := h2.form
  injection e with _ e2 _
  subst e2
  exact World.ownsRow.frozenAt h k
theorem at_mo {w : World} {B n cap : Nat} {A : Option Addr} {l : List Int} (h : OwnL moS w B (.slice A n cap) l) {k : Nat} (hk : k < l.length) :
  ∃ g, A = some ⟨g, 0, none⟩ ∧ w.cell? ⟨g, k, none⟩ = some (.int .i64 l[k]) ∧ w.frozen? ⟨g, k, none⟩ = false := by
 obtain ⟨g, rfl, hc⟩ := h.at_ moS_ok hk
 refine ⟨g, rfl, ?_, ?_⟩
 ·have := hc 0 (.int .i64 l[k]) (by decide) rfl
  simpa [moS] using this
 ·have h2 := h
  obtain ⟨A', cap', e, _⟩ := h2.form
  injection e with _ e2 _
  subst e2
  exact World.ownsRow.frozenAt h k
def Mk1 (w0 : World) (B : Nat) (v : Value) (s : List SlV) (C : Nat → List Int) (k j : Nat) (w : World) : Prop :=
 ∃ C', (∀ q, (C' q).length = (C q).length) ∧ (∀ q, q < k → C' q = marks q (C q).length) ∧ (C' k).take j = marks k j ∧ Many moS w B s C' ∧ OwnL goS w B v s ∧ Below B w0 w ∧ KTy moS.tE w0 w
section
variable {w0 w : World} {B k j : Nat} {v : Value} {s : List SlV} {C : Nat → List Int}
theorem Mk1.outer (h : Mk1 w0 B v s C k j w) : OwnL goS w B v s := h.elim fun _ h => h.2.2.2.2.1
theorem Mk1.bel (h : Mk1 w0 B v s C k j w) : Below B w0 w := h.elim fun _ h => h.2.2.2.2.2.1
theorem Mk1.len (h : Mk1 w0 B v s C k j w) {t : SlV} (ht : s[k]? = some t) : t.n = (C k).length := by
 obtain ⟨C', h1, _, _, h4, _⟩ := h
 rw [h4.len ht, h1]
theorem Mk1.cell (h : Mk1 w0 B v s C k j w) {A : Option Addr} {n c : Nat} (ht : s[k]? = some ⟨A, n, c⟩) (hj : j < (C k).length) : ∃ b x, A = some ⟨b, 0, none⟩ ∧ w.cell? ⟨b, j, none⟩ = some x ∧ w.frozen? ⟨b, j, none⟩ = false := by
 obtain ⟨C', h1, _, _, h4, _⟩ := h
 obtain ⟨b, e, hc, hf⟩ := at_mo (h4.own k _ ht) (k := j) (by rw [h1]; exact hj)
 exact ⟨b, _, e, hc, hf⟩
theorem Mk1.put (h : Mk1 w0 B v s C k j w) (hB : B ≤ w0.heap.size) {b n c : Nat} (ht : s[k]? = some ⟨some ⟨b, 0, none⟩, n, c⟩) (hj : j < (C k).length) : Mk1 w0 B v s C k (j + 1) (w.setCell ⟨b, j, none⟩ (.int .i64 (markF (k : Int) (j : Int)))) := by
 have hn := h.len ht
 obtain ⟨C', h1, h2, h3, h4, h5, h6⟩ := h
 simp only [] at hn
 have ho := h4.own k _ ht
 have hl := h4.len ht
 simp only [] at hl
 subst hl
 have hst := World.ownsRow.stored (show w.ownsRow B moS.tE moS.size (.slice (some ⟨b, 0, none⟩) (C' k).length c) (C' k).length (moS.cells (C' k)) from ho) j (.int .i64 (markF (k : Int) (j : Int)))
 refine ⟨updC C' k ((C' k).set j (markF (k : Int) (j : Int))), fun q => ?_, fun q hq => ?_, ?_, h4.put rfl ht j _ _ rfl mo_enc (by rw [h1]; exact hj), ?_, ?_⟩
 ·by_cases hqk : q = k
  ·subst hqk; rw [updC_same, List.length_set, h1]
  ·rw [updC_ne hqk, h1]
 ·rw [updC_ne (by omega)]; exact h2 q hq
 ·rw [updC_same, marks_succ, ← h3]
  have hj2 : j < (C' k).length := by rw [h1]; exact hj
  rw [List.take_succ_eq_append_getElem (by rw [List.length_set]; exact hj2), List.getElem_set_self, List.take_set_of_le (Nat.le_refl _)]
 ·exact h5.keptL ho (by decide) (fun z hz hne => hst.2.block z hz (fun e => hne e.symm))
 ·exact ⟨h6.1.grown hst.2 (Nat.le_trans hB h6.1.size) (fun g hg => by injection hg with hg; subst hg; exact (ho.lt b rfl).1), h6.2.kept h6.1.size ho rfl (fun z hz hne => hst.2.block z hz (fun e => hne e.symm))⟩
theorem Mk1.next (h : Mk1 w0 B v s C k j w) (hj : j = (C k).length) : Mk1 w0 B v s C (k + 1) 0 w := by
 obtain ⟨C', h1, h2, h3, h4⟩ := h
 refine ⟨C', h1, fun q hq => ?_, by simp [marks], h4⟩
 by_cases hqk : q = k
 ·subst hqk
  rw [← hj, ← h3, List.take_of_length_le (by rw [h1, hj]; exact Nat.le_refl _)]
 ·exact h2 q (by omega)
end
theorem goS_enc : ∀ y : SlV, ∃ v, goS.enc y = [v] := fun y => ⟨_, rfl⟩
structure M2 (w0 : World) (B : Nat) (v gv : Value) (s gl : List SlV) (O D : Nat → List Int) (w : World) : Prop where
 outer : OwnL goS w B gv gl
 grown : Grown moS w B s gl O D
 lists : OwnL goS w B v s
 far : ∀ b, v.ownBlock = some b → gv.ownBlock ≠ some b
 farS : ∀ (q : Nat) (t : SlV), s[q]? = some t → ∀ b, t.val.ownBlock = some b → gv.ownBlock ≠ some b
 bel : Below B w0 w
 hB : B ≤ w0.heap.size
 kt : KTy moS.tE w0 w
 hgv : ∀ b, gv.ownBlock = some b → w0.heap.size ≤ b
section
variable {w0 w w' : World} {B i : Nat} {v gv : Value} {s gl : List SlV} {O D : Nat → List Int}
theorem M2.below (h : M2 w0 B v gv s gl O D w) (hb : Below w.heap.size w w') : M2 w0 B v gv s gl O D w' :=
 ⟨h.outer.below hb, h.grown.below hb, h.lists.below hb, h.far, h.farS, h.bel.trans (hb.mono (Nat.le_trans h.hB h.bel.size)), h.hB, h.kt.below h.bel.size hb, h.hgv⟩
theorem M2.alloc (h : M2 w0 B v gv s gl O D w) (o : Obj) : M2 w0 B v gv s gl O D (w.alloc o) := h.below ((Below.refl _ _).alloc (Nat.le_refl _) _)
theorem M2.drew (h : M2 w0 B v gv s gl O D w) : M2 w0 B v gv s gl O D w.drew := h.below (Below.refl _ _).drew
theorem M2.drewN (h : M2 w0 B v gv s gl O D w) (n : Nat) : M2 w0 B v gv s gl O D (w.drewN n) := h.below ⟨rfl, rfl, rfl, Nat.le_refl _, fun _ _ => rfl⟩
theorem M2.hBw (h : M2 w0 B v gv s gl O D w) : B ≤ w.heap.size := Nat.le_trans h.hB h.bel.size
theorem M2.own {u : SlV} (h : M2 w0 B v gv s gl O D w) (hu : gl[i]? = some u) : OwnL moS w B u.val (D i) := h.grown.many.own i u hu
theorem M2.ownS {ua : Option Addr} {un uc : Nat} (h : M2 w0 B v gv s gl O D w) (hu : gl[i]? = some ⟨ua, un, uc⟩) : OwnL moS w B (.slice ua un uc) (D i) := h.own hu
theorem M2.app {u : SlV} (h : M2 w0 B v gv s gl O D w) (hu : gl[i]? = some u) {g c n : Nat} {x : Int} (h2 : OwnL moS w' B (.slice (some ⟨g, 0, none⟩) n c) (D i ++ [x])) (h3 : Below B w w') (h3k : KeptBut w w' u.val)
  (h4 : u.val.ownBlock = some g ∨ g = w.heap.size) (h6 : CellsTo w w' u.val ((D i).length * moS.size)) :
  OwnL goS w' B gv gl ∧ OwnL goS w' B v s ∧ Grown moS w' B s (gl.set i ⟨some ⟨g, 0, none⟩, n, c⟩) O (updC D i (D i ++ [x])) ∧ KTy moS.tE w0 w' := by
 refine ⟨h.outer.keptL (h.own hu) (by decide) h3k, h.lists.keptL (h.own hu) (by decide) h3k, ?_, h.kt.kept h.bel.size (h.own hu) rfl h3k⟩
 refine h.grown.step rfl hu ⟨some ⟨g, 0, none⟩, n, c⟩ x h2 h3k ?_ h3.size h6
 rcases h4 with h4 | h4
 ·exact Or.inl h4
 ·exact Or.inr (by rw [← h4]; rfl)
theorem M2.stored {gg gc : Nat} {w6 : World} {t : SlV} {D' : Nat → List Int} (hg : Grown moS w6 B s (gl.set i t) O D') (ho : OwnL goS w6 B (.slice (some ⟨gg, 0, none⟩) s.length gc) gl) (hl : OwnL goS w6 B v s) (hi : i < gl.length) (hlen : gl.length = s.length)
  (hf : ∀ b, v.ownBlock = some b → (Value.slice (some ⟨gg, 0, none⟩) s.length gc).ownBlock ≠ some b) (hfS : ∀ (q : Nat) (t : SlV), s[q]? = some t → ∀ b, t.val.ownBlock = some b → (Value.slice (some ⟨gg, 0, none⟩) s.length gc).ownBlock ≠ some b) (hb : Below B w0 w6) (hB : B ≤ w0.heap.size) (hkt : KTy moS.tE w0 w6) (hgv : ∀ b, (Value.slice (some ⟨gg, 0, none⟩) s.length gc).ownBlock = some b → w0.heap.size ≤ b) :
  M2 w0 B v (.slice (some ⟨gg, 0, none⟩) s.length gc) s (gl.set i t) O D' (w6.setCell ⟨gg, i, none⟩ (.slice t.a t.n t.c)) := by
 have ho2 : Many goS w6 B [⟨some ⟨gg, 0, none⟩, s.length, gc⟩] (fun _ => gl) := ⟨fun q u hu => by
  rcases q with _ | q
  ·simp at hu; subst hu; exact ho
  ·simp at hu, fun p q a b hp hq hpq => by
  rcases p with _ | p <;> rcases q with _ | q <;> simp at hp hq hpq⟩
 have hp := ho2.put (q := 0) rfl (b := gg) (n := s.length) (c := gc) rfl i t (.slice t.a t.n t.c) rfl goS_enc hi
 have ho' : w6.ownsRow B goS.tE goS.size (.slice (some ⟨gg, 0, none⟩) gl.length gc) gl.length (goS.cells gl) := by rw [hlen]; have h := ho; unfold OwnL at h; rw [hlen] at h; exact h
 have hst := World.ownsRow.stored ho' i (.slice t.a t.n t.c)
 have hk : KeptBut w6 (w6.setCell ⟨gg, i, none⟩ (.slice t.a t.n t.c)) (.slice (some ⟨gg, 0, none⟩) s.length gc) := fun k hk hne => hst.2.block k hk (fun e => hne e.symm)
 refine ⟨?_, hg.keptL ho (by decide) hk (by rw [set_size]; exact Nat.le_refl _) hfS, hl.keptNe hk hf, hf, hfS, hb.grown hst.2 (Nat.le_trans hB hb.size) (fun k e => by injection e with e; subst e; exact (ho.lt gg rfl).1), hB, hkt.new hb.size hgv hk, hgv⟩
 ·have := hp.own 0 _ rfl
  rw [updC_same] at this
  exact this
theorem M2.start {B2 : Nat} (hB : B ≤ w0.heap.size) (hm : Many moS w B s O) (hl : OwnL goS w B v s) (hb : Below B w0 w) (hkt : KTy moS.tE w0 w) (ho : OwnL goS w' B2 gv s) (h2 : w.heap.size ≤ B2) (hb2 : Below w.heap.size w w') : M2 w0 B v gv s s O O w' := by
 have hgv : ∀ b, b < w.heap.size → gv.ownBlock ≠ some b := fun b hb e => by have := (ho.lt b e).1; omega
 have hBw := Nat.le_trans hB hb.size
 exact ⟨ho.more (Nat.le_trans hBw h2), Grown.start mo_enc rfl (hm.below hb2), hl.below hb2, fun b hv => hgv b (hl.lt b hv).2, fun q t ht b hv => hgv b ((hm.own q t ht).lt b hv).2, hb.trans (hb2.mono hBw), hB, hkt.below hb.size hb2, fun b hv => Nat.le_trans hb.size (Nat.le_trans h2 (ho.lt b hv).1)⟩
theorem M2.at_ {G : Option Addr} {n c : Nat} (h : M2 w0 B v (.slice G n c) s gl O D w) (hi : i < gl.length) : ∃ gg u, G = some ⟨gg, 0, none⟩ ∧ gl[i]? = some u ∧ u.n = (D i).length ∧ w.cell? ⟨gg, i, none⟩ = some (.slice u.a u.n u.c) ∧ gg < w.heap.size := by
 obtain ⟨gg, e, hc, _⟩ := at_go h.outer hi
 refine ⟨gg, gl[i], e, List.getElem?_eq_getElem hi, h.grown.many.len (List.getElem?_eq_getElem hi), hc, ?_⟩
 have ho := h.outer
 rw [e] at ho
 exact (ho.lt gg rfl).2
end
def Dk (C : Nat → List Int) (k i : Nat) : Nat → List Int := fun q => marks q ((C q).length + k + if q < i then 1 else 0)
theorem Dk_step (C : Nat → List Int) (k i : Nat) : updC (Dk C k i) i (Dk C k i i ++ [markF (i : Int) (((C i).length + k : Nat) : Int)]) = Dk C k (i + 1) := by
 funext q
 by_cases hq : q = i
 ·subst hq
  rw [updC_same]
  unfold Dk
  rw [if_neg (by omega), if_pos (by omega), Nat.add_zero, ← marks_succ]
 ·rw [updC_ne hq]
  unfold Dk
  by_cases h : q < i
  ·rw [if_pos h, if_pos (by omega)]
  ·rw [if_neg h, if_neg (by omega)]
theorem Dk_next {C : Nat → List Int} {k n : Nat} (q : Nat) (h : q < n) : Dk C k n q = Dk C (k + 1) 0 q := by
 unfold Dk
 rw [if_pos h, if_neg (by omega)]
 rfl
theorem Dk_zero (C : Nat → List Int) : (fun q => marks q (C q).length) = Dk C 0 0 := by
 funext q
 unfold Dk
 rw [if_neg (by omega)]
 rfl
theorem Dk_len (C : Nat → List Int) (k i : Nat) : (Dk C k i i).length = (C i).length + k := by
 unfold Dk
 rw [marks_len, if_neg (by omega)]
 rfl
theorem Dk_len2 (C : Nat → List Int) (k i : Nat) : (Dk C k 0 i).length = (C i).length + k := by
 unfold Dk
 rw [marks_len, if_neg (by omega)]
 rfl
theorem Grown.congr {α : Type} {S : Shape α} {w : World} {B : Nat} {s g : List SlV} {O D D' : Nat → List α} (h : Grown S w B s g O D) (hd : ∀ q, q < s.length → D q = D' q) (hp : ∀ q, (O q).length ≤ (D' q).length) : Grown S w B s g O D' := by
 refine ⟨⟨fun q t ht => ?_, h.many.apart⟩, h.len, h.old, h.lt, h.apart, hp⟩
 have hq : q < g.length := by
  rcases Nat.lt_or_ge q g.length with h | h
  ·exact h
  ·rw [List.getElem?_eq_none h] at ht; cases ht
 rw [← hd q (by rw [← h.len]; exact hq)]
 exact h.many.own q t ht
theorem M2.next {w0 w : World} {B k : Nat} {v gv : Value} {s gl : List SlV} {C : Nat → List Int} (h : M2 w0 B v gv s gl (Dk C 0 0) (Dk C k s.length) w) : M2 w0 B v gv s gl (Dk C 0 0) (Dk C (k + 1) 0) w :=
 ⟨h.outer, h.grown.congr (fun q hq => Dk_next q hq) (fun q => by unfold Dk; rw [marks_len, marks_len]; omega), h.lists, h.far, h.farS, h.bel, h.hB, h.kt, h.hgv⟩
theorem mocell {w : World} {nb : Nat} {x : Int} (h : w.cell? ⟨nb, 0, none⟩ = some (.int .i64 x)) : ∀ j u, (moS.enc x)[j]? = some u → w.cell? ⟨nb, j, none⟩ = some u := by
 intro j u hj
 match j, hj with
 | 0, hj => simp [moS] at hj; subst hj; exact h
theorem at_go2 {w : World} {B n cap g : Nat} {s : List SlV} (h : OwnL goS w B (.slice (some ⟨g, 0, none⟩) n cap) s) {k : Nat} (hk : k < s.length) :
  w.cell? ⟨g, k, none⟩ = some (.slice s[k].a s[k].n s[k].c) ∧ w.frozen? ⟨g, k, none⟩ = false := by
 obtain ⟨g', e, h1, h2⟩ := at_go h hk
 injection e with e
 injection e with e _ _
 subst e
 exact ⟨h1, h2⟩
theorem at_go3 {w : World} {B n cap g : Nat} {s : List SlV} (h : OwnL goS w B (.slice (some ⟨g, 0, none⟩) n cap) s) {k : Nat} {ta : Option Addr} {tn tc : Nat} (ht : s[k]? = some ⟨ta, tn, tc⟩) :
  w.cell? ⟨g, k, none⟩ = some (.slice ta tn tc) ∧ g < w.heap.size := by
 have hk : k < s.length := by
  rcases Nat.lt_or_ge k s.length with h | h
  ·exact h
  ·rw [List.getElem?_eq_none h] at ht; cases ht
 have e : s[k] = ⟨ta, tn, tc⟩ := by rw [List.getElem?_eq_getElem hk] at ht; injection ht
 have := (at_go2 h hk).1
 rw [e] at this
 exact ⟨this, (h.lt g rfl).2⟩
theorem M2.tn {w0 w : World} {B i : Nat} {v gv : Value} {s gl : List SlV} {C D : Nat → List Int} (h : M2 w0 B v gv s gl (Dk C 0 0) D w) {ta : Option Addr} {tn tc : Nat} (ht : s[i]? = some ⟨ta, tn, tc⟩) : tn = (C i).length := by
 have := (h.grown.old i _ ht).1
 simp only [] at this
 rw [this]
 unfold Dk
 rw [marks_len, if_neg (by omega)]
 rfl
theorem M2.gcell {w0 w : World} {B i j k : Nat} {v gv : Value} {s gl : List SlV} {C O : Nat → List Int} (h : M2 w0 B v gv s gl O (Dk C k 0) w) {ua : Option Addr} {un uc : Nat} (hu : gl[i]? = some ⟨ua, un, uc⟩) (hj : j < un) :
  ∃ b, ua = some ⟨b, 0, none⟩ ∧ w.cell? ⟨b, j, none⟩ = some (.int .i64 (markF (i : Int) (j : Int))) ∧ b < w.heap.size := by
 have hl := h.grown.many.len hu
 simp only [] at hl
 have hj2 : j < (Dk C k 0 i).length := by rw [← hl]; exact hj
 obtain ⟨b, rfl, hc, _⟩ := at_mo (h.ownS hu) hj2
 refine ⟨b, rfl, ?_, ((h.ownS hu).lt b rfl).2⟩
 rw [hc]
 have : (Dk C k 0 i)[j]? = some (markF (i : Int) (j : Int)) := marks_get i _ j (by unfold Dk at hj2; rw [marks_len] at hj2; exact hj2)
 rw [List.getElem?_eq_getElem hj2] at this
 injection this with this
 rw [this]
theorem M2.lcell {w0 w : World} {B i j : Nat} {v gv : Value} {s gl : List SlV} {C D : Nat → List Int} (h : M2 w0 B v gv s gl (Dk C 0 0) D w) {ta : Option Addr} {tn tc : Nat} (ht : s[i]? = some ⟨ta, tn, tc⟩) (hj : j < tn) :
  ∃ b, ta = some ⟨b, 0, none⟩ ∧ w.cell? ⟨b, j, none⟩ = some (.int .i64 (markF (i : Int) (j : Int))) ∧ b < w.heap.size := by
 have hn := h.tn ht
 obtain ⟨b, x, h1, h2, h3, h4⟩ := (h.grown.old i _ ht).2 j (markF (i : Int) (j : Int)) (marks_get i _ j (by omega))
 have e : x = .int .i64 (markF (i : Int) (j : Int)) := by
  have : [Value.int .i64 (markF (i : Int) (j : Int))] = [x] := h3
  injection this with this _
  exact this.symm
 exact ⟨b, h1, by rw [h4, e], h2⟩
theorem ownInts_full {w : World} {B : Nat} {v : Value} {s : List SlV} {C : Nat → List Int} (hV : OwnL goS w B v s) (hM : Many moS w B s C) (hC : ∀ q, (C q).length ≤ 960000000000) (hB : B ≤ w.heap.size) (hs : s.length ≤ 960000000000) :
  Calls Tryd.prog 24 #[v] w fun e w' => e = .returned (.bool true) ∧ Below B w w' ∧ KTy moS.tE w w' ∧ ∃ gl D, Grown moS w' B s gl (Dk C 0 0) D := by
 obtain ⟨A, cap, rfl, hcap, hcap2⟩ := hV.form
 unfold maxLen at hcap2
 have HV := LH hV; have HM := LH hM; have HC := LH hC; have HB := LH hB
 have HMK := LH (fun i j W => Mark_any i j W)
 clear hV hM hC hB
 go_enter Tryd.func24, Tryd.ntmps24
 go_wp2
 go_loopw [15] (fun iv wr => ∃ k : Nat, k ≤ s.length ∧ iv = .int .i64 (k : Int) ∧ Mk1 w B (.slice A s.length cap) s C k 0 wr) (fun iv _ => s.length - (intOf iv).toNat)
 case atStart => exact ⟨0, by omega, rfl, C, fun _ => rfl, fun q hq => by omega, by simp [marks], HM.out, HV.out, Below.refl _ _, KTy.refl _ _⟩
 case round =>
  obtain ⟨k, hk, rfl, hmk⟩ := hrel
  by_cases hlt : k < s.length
  ·have HK := LH hmk
   obtain ⟨g, rfl, z0, f0⟩ := at_go hmk.outer hlt
   have ht : s[k]? = some s[k] := List.getElem?_eq_getElem hlt
   have HL := LH (hmk.len ht)
   have HT := LH ht
   have hcl := HC.out k
   rw [← HL.out] at hcl
   clear hmk ht
   generalize s[k] = t at *
   obtain ⟨ta, tn, tc⟩ := t
   simp only [] at hcl z0
   go_wp2
   go_loopw [22] (fun iv wx => ∃ j : Nat, j ≤ tn ∧ iv = .int .i64 (j : Int) ∧ Mk1 w B (.slice (some ⟨g, 0, none⟩) s.length cap) s C k j wx) (fun iv _ => tn - (intOf iv).toNat)
   case atStart => exact ⟨0, by omega, rfl, HK.out⟩
   case round =>
    obtain ⟨j, hj, rfl, hmj⟩ := hrel
    clear z0 f0
    by_cases hjt : j < tn
    ·have HJ := LH hmj
     have hjc : j < (C k).length := by have := HL.out; omega
     obtain ⟨b, x, rfl, z1, f1⟩ := hmj.cell HT.out hjc
     have HP := LH (hmj.put HB.out HT.out hjc)
     clear hmj
     go_wp2_with (refine (HMK.out _ _ _).mono ?_; rintro e w5 ⟨rfl, rfl⟩)
     go_roundw
     case rel => exact ⟨j + 1, by omega, by go_num, HP.out⟩
     case measure => simp [intOf]; omega
    ·have HP := LH (hmj.next (by have := HL.out; omega))
     clear hmj
     go_wp2
     go_roundw
     case rel => exact ⟨k + 1, by omega, by go_num, HP.out⟩
     case measure => simp [intOf]; omega
  ·have hks : k = s.length := by omega
   subst hks
   have HR := LH hmk
   obtain ⟨C', h1, h2, -, h4, h5, h6⟩ := hmk
   have HMM := LH (show Many moS wr B s (fun q => marks q (C q).length) from ⟨fun q t ht => by
    have hq : q < s.length := by
     rcases Nat.lt_or_ge q s.length with h | h
     ·exact h
     ·rw [List.getElem?_eq_none h] at ht; cases ht
    rw [← h2 q hq]
    exact h4.own q t ht, h4.apart⟩)
   have HL5 := LH h5; have HB6 := LH h6.1; have HKT := LH h6.2
   clear h1 h2 h4 h5 h6 C'
   have HL0 := LH (show OwnL goS (wr.alloc (.cells #[] 24)) wr.heap.size (.slice (some ⟨wr.heap.size, 0, none⟩) 0 0) [] from OwnL.lit0 goS wr (Nat.le_refl _))
   have HR0 := LH (RdL.of_own (HL5.out.alloc (.cells #[] 24)))
   have hz3 : wr.heap.size ≤ (wr.alloc (.cells #[] 24)).heap.size := by rw [World.size_alloc]; omega
   have hap1 : ([] : List SlV).length + s.length ≤ 970000000000 := by simp; omega
   go_wp2_with (refine OwnL.appendRd goS_ok HL0.out HR0.out rfl _ _ rfl rfl rfl hz3 hap1 ?_; intro v4 w4 ho4 hb4; rw [List.nil_append] at ho4; obtain ⟨A4, c4, rfl, hc4, hc5⟩ := ho4.form; unfold maxLen at hc5; have HB4 := LH (((Below.refl wr.heap.size wr).alloc (Nat.le_refl _) (.cells #[] 24)).trans hb4); have HO4 := LH ho4; clear ho4 hb4)
   rw [Dk_zero] at HMM
   have HST := LH (M2.start HB.out HMM.out HL5.out HB6.out HKT.out HO4.out (Nat.le_refl _) HB4.out)
   clear HR HMM HL5 HB6 HKT HL0 HR0 hz3 hap1 HO4 HB4 HM HV hk hlt
   obtain ⟨wa, rfl⟩ : ∃ wa, wa = wr := ⟨_, rfl⟩
   go_loopw [7] (fun iv wx => ∃ k : Nat, k ≤ 80 ∧ iv = .int .i64 (k : Int) ∧ ∃ gl, M2 w B (.slice A s.length cap) (.slice A4 s.length c4) s gl (Dk C 0 0) (Dk C k 0) wx) (fun iv _ => 80 - (intOf iv).toNat)
   case atStart => exact ⟨0, by omega, rfl, s, HST.out⟩
   case round =>
    clear HST
    obtain ⟨k, hk, rfl, gl, hM⟩ := hrel
    by_cases hk80 : k < 80
    ·have HMJ := LH hM
     clear hM
     have hkd : decide ((k : Int) < 80) = true := decide_eq_true (by omega)
     go_wp2
     obtain ⟨wb, rfl⟩ : ∃ wb, wb = wr := ⟨_, rfl⟩
     go_loopw [42] (fun iv wx => ∃ i : Nat, i ≤ s.length ∧ iv = .int .i64 (i : Int) ∧ ∃ gl, M2 w B (.slice A s.length cap) (.slice A4 s.length c4) s gl (Dk C 0 0) (Dk C k i) wx) (fun iv _ => s.length - (intOf iv).toNat)
     case atStart => exact ⟨0, by omega, rfl, gl, HMJ.out⟩
     case round =>
      clear HMJ
      clear gl
      obtain ⟨i, hi, rfl, gl, hM⟩ := hrel
      by_cases hlt : i < s.length
      ·have HMI := LH hM
       have HGL := LH hM.grown.len
       have hig : i < gl.length := by rw [HGL.out]; exact hlt
       obtain ⟨gg, u, rfl, hu, hun, z0, hgb⟩ := hM.at_ hig
       obtain ⟨ua, un, uc⟩ := u
       have HU := LH hu
       have HUN := LH (show un = (C i).length + k from hun.trans (Dk_len C k i))
       have HLE := LH (show (Dk C k i i).length + 1 ≤ 970000000000 from by rw [Dk_len]; have := HC.out i; omega)
       have hul : un ≤ 970000000000 := by have := HC.out i; have := HUN.out; omega
       have HIG := LH hig
       simp only [] at z0
       clear hM hu hun hig
       go_wp2
       go_region_law (first
        | ((with_reducible refine OwnL.stepAppendTo moS_ok (B := B) (v := .slice ua un uc) (l := Dk C k i i) (M2.ownS (w0 := w) (B := B) (v := .slice A s.length cap) (gv := .slice (some ⟨gg, 0, none⟩) s.length c4) (s := s) (gl := gl) (O := Dk C 0 0) (D := Dk C k i) (by (repeat (first | exact HMI.out | with_reducible refine M2.drew ?_ | with_reducible refine M2.alloc ?_ _)); done) HU.out) (markF (i : Int) (un : Int)) _ rfl _ _ rfl rfl rfl (by refine mocell ?_; simp [World.cell?_alloc_new]) (M2.hBw (w0 := w) (B := B) (v := .slice A s.length cap) (gv := .slice (some ⟨gg, 0, none⟩) s.length c4) (s := s) (gl := gl) (O := Dk C 0 0) (D := Dk C k i) (by (repeat (first | exact HMI.out | with_reducible refine M2.drew ?_ | with_reducible refine M2.alloc ?_ _)); done)) HLE.out (fun g6 c6 w6 h2 h3 h3k h4 h5 h6 => ?_)); (have hM6 := M2.app (w0 := w) (B := B) (v := .slice A s.length cap) (gv := .slice (some ⟨gg, 0, none⟩) s.length c4) (s := s) (gl := gl) (O := Dk C 0 0) (D := Dk C k i) (by (repeat (first | exact HMI.out | with_reducible refine M2.drew ?_ | with_reducible refine M2.alloc ?_ _)); done) HU.out h2 h3 h3k h4 h6); (have hB6 := (M2.bel (w0 := w) (B := B) (v := .slice A s.length cap) (gv := .slice (some ⟨gg, 0, none⟩) s.length c4) (s := s) (gl := gl) (O := Dk C 0 0) (D := Dk C k i) (by (repeat (first | exact HMI.out | with_reducible refine M2.drew ?_ | with_reducible refine M2.alloc ?_ _)); done)).trans h3); (obtain ⟨m6, m7⟩ := at_go2 hM6.1 HIG.out); clear h2 h3 h3k h4 h6)
        | (go_simp; go_at_call 39; refine (HMK.out _ _ _).mono ?_; rintro e w5 ⟨rfl, rfl⟩))
       all_goals
        have HS6 := LH (M2.stored hM6.2.2.1 hM6.1 hM6.2.1 HIG.out HGL.out (HMI.out.far) (HMI.out.farS) hB6 HB.out hM6.2.2.2 (HMI.out.hgv))
        have hdk := Dk_step C k i
        rw [← HUN.out] at hdk
        have HDK := LH hdk
        simp only [] at HS6
        rw [HDK.out] at HS6
        clear hM6 hB6 m6 m7 hdk
        go_wp2
        go_roundw
        case rel => exact ⟨i + 1, by omega, by go_num, _, HS6.out⟩
        case measure => simp [intOf]; omega
      ·have hie : i = s.length := by omega
       subst hie
       have HMI := LH hM.next
       clear hM
       go_wp2
       go_roundw
       case rel => exact ⟨k + 1, by omega, by go_num, gl, HMI.out⟩
       case measure => simp [intOf]; omega
    ·have hke : k = 80 := by omega
     have HKE := LH hke
     have HMI := LH hM
     have hkd : decide ((k : Int) < 80) = false := decide_eq_false (by omega)
     clear hM hke hk80 hk
     go_wp2
     obtain ⟨wb, rfl⟩ : ∃ wb, wb = wr := ⟨_, rfl⟩
     go_loopw [65] (fun iv wx => ∃ i : Nat, i ≤ s.length ∧ iv = .int .i64 (i : Int) ∧ M2 w B (.slice A s.length cap) (.slice A4 s.length c4) s gl (Dk C 0 0) (Dk C k 0) wx) (fun iv _ => s.length - (intOf iv).toNat)
     case atStart => exact ⟨0, by omega, rfl, HMI.out⟩
     case round =>
      clear HMI
      obtain ⟨i, hi, rfl, hM⟩ := hrel
      by_cases hlt : i < s.length
      ·have HMI := LH hM
       have hig : i < gl.length := by rw [hM.grown.len]; exact hlt
       obtain ⟨gg, u, rfl, hu, hun, z0, hgb⟩ := hM.at_ hig
       obtain ⟨ua, un, uc⟩ := u
       obtain ⟨ga, rfl, z1, -⟩ := at_go hM.lists hlt
       have ht : s[i]? = some s[i] := List.getElem?_eq_getElem hlt
       generalize s[i] = t at *
       obtain ⟨ta, tn, tc⟩ := t
       have HU := LH hu
       have HT := LH ht
       have HUN := LH (show un = (C i).length + k from hun.trans (Dk_len2 C k i))
       have HTN := LH (hM.tn ht)
       have hul : un ≤ 970000000000 := by have := HC.out i; have := HUN.out; have := HKE.out; omega
       simp only [] at z0 z1
       clear hM hu ht hun hig
       go_wp2
       obtain ⟨wd, rfl⟩ : ∃ wd, wd = wr := ⟨_, rfl⟩
       go_loopw [72] (fun iv wx => ∃ j : Nat, j ≤ un ∧ iv = .int .i64 (j : Int) ∧ M2 w B (.slice (some ⟨ga, 0, none⟩) s.length cap) (.slice (some ⟨gg, 0, none⟩) s.length c4) s gl (Dk C 0 0) (Dk C k 0) wx) (fun iv _ => un - (intOf iv).toNat)
       case atStart => exact ⟨0, by omega, rfl, HMI.out⟩
       case round =>
        clear HMI z0 z1 hgb
        obtain ⟨j, hj, rfl, hM⟩ := hrel
        by_cases hju : j < un
        ·obtain ⟨b, rfl, y0, hb0⟩ := hM.gcell HU.out hju
         obtain ⟨z1, hz1⟩ := at_go3 hM.lists HT.out
         by_cases hjt : j < tn
         ·obtain ⟨b2, rfl, y1, hb1⟩ := hM.lcell HT.out hjt
          have HMJ := LH hM
          clear hM
          go_wp2
          go_region_law (go_simp; go_at_call 39; refine (HMK.out _ _ _).mono ?_; rintro e w5 ⟨rfl, rfl⟩)
          all_goals
           go_wp2
           simp only [Act.put, List.getElem_toArray, List.getElem_cons_zero, List.getElem_cons_succ, List.setIfInBounds_toArray, List.set_cons_zero, List.set_cons_succ]
           go_quiet (fail)
           go_wp2
           go_roundw
           case rel => exact ⟨j + 1, by omega, by go_num, HMJ.out.drewN _⟩
           case measure => simp [intOf]; omega
         ·have HMJ := LH hM
          have hjd : decide (j < tn) = false := decide_eq_false hjt
          clear hM hjt
          go_wp2
          go_region_law (go_simp; go_at_call 39; refine (HMK.out _ _ _).mono ?_; rintro e w5 ⟨rfl, rfl⟩)
          all_goals
           go_wp2
           simp only [Act.put, List.getElem_toArray, List.getElem_cons_zero, List.getElem_cons_succ, List.setIfInBounds_toArray, List.set_cons_zero, List.set_cons_succ]
           go_quiet (fail)
           go_wp2
           go_roundw
           case rel => exact ⟨j + 1, by omega, by go_num, HMJ.out.drewN _⟩
           case measure => simp [intOf]; omega
        ·have HMJ := LH hM
         clear hM
         go_wp2
         go_roundw
         case rel => exact ⟨i + 1, by omega, by go_num, HMJ.out⟩
         case measure => simp [intOf]; omega
      ·have HMI := LH hM
       clear hM
       go_wp2
       go_ret
       exact ⟨rfl, HMI.out.bel, HMI.out.kt, _, _, HMI.out.grown⟩
end Go.Proofs.YthcldpminmhgkaaDoor
end
