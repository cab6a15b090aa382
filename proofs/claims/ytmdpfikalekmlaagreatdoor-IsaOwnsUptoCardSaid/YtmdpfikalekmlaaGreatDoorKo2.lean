/- Merged for a claim: Mo Gs Gt Sk Kd Oc Str -/
import Derived.Test.YtmdpfikalekmlaaGreatDoorMk
import Derived.Test.YtmdpfikalekmlaaGreatDoorKo1
import Derived.Deep.RegionLaw
import Derived.Deep.QuietTactic
import Derived.BigQuiet
import Derived.Test.YtmdpfikalekmlaaGreatDoorGr
import Derived.Test.YtmdpfikalekmlaaGreatDoorOm
import Derived.RegionTactic
import Derived.Deep.AppendLies
import Derived.Test.YtmdpfikalekmlaaGreatDoorBy
import Derived.Test.YtmdpfikalekmlaaGreatDoorSc
import Derived.Test.YtmdpfikalekmlaaGreatDoorTh
import Derived.Test.YtmdpfikalekmlaaGreatDoorBulk
import Derived.Test.YtmdpfikalekmlaaGreatDoorBlk
section
/- concordmem.OwnInts: lists each alone in its row are each other's strangers. -/
namespace Go.Proofs.YtmdpfikalekmlaaGreatDoor
open Go.RowKit
set_option maxRecDepth 100000
set_option maxHeartbeats 4000000
set_option linter.unusedSimpArgs false
set_option linter.unusedVariables false

def moS : Shape Int := { tS := 23, tE := 3, size := 1, bytes := 8, enc := fun x => [.int .i64 x], zero := .int .i64 0 }
theorem moS_ok : moS.Ok := ⟨by kernel_rfl, by kernel_rfl, rfl, by decide, fun _ => rfl, fun x u hu => by simp [moS] at hu; subst hu; rfl, by decide⟩
def goS : Shape SlV := { tS := 90, tE := 23, size := 1, bytes := 24, enc := fun s => [s.val], zero := .slice none 0 0 }
theorem goS_ok : goS.Ok := ⟨by kernel_rfl, by kernel_rfl, rfl, by decide, fun _ => rfl, fun x u hu => by simp [goS] at hu; subst hu; rfl, by decide⟩
theorem mo_enc : ∀ y : Int, ∃ v, moS.enc y = [v] := fun y => ⟨_, rfl⟩
/-- Slice k of the list of slices, as the walk loads it. -/
theorem at_go {w : World} {B n cap : Nat} {A : Option Addr} {s : List SlV} (h : OwnL goS w B (.slice A n cap) s) {k : Nat} (hk : k < s.length) :
    ∃ g, A = some ⟨g, 0, none⟩ ∧ w.cell? ⟨g, k, none⟩ = some (.slice s[k].a s[k].n s[k].c) ∧ w.frozen? ⟨g, k, none⟩ = false := by
  obtain ⟨g, rfl, hc⟩ := h.at_ goS_ok hk
  refine ⟨g, rfl, ?_, ?_⟩
  · have := hc 0 (s[k].val) (by decide) rfl
    simpa [goS, SlV.val] using this
  · have h2 := h
    obtain ⟨A', cap', e, _⟩ := h2.form
    injection e with _ e2 _
    subst e2
    exact World.ownsRow.frozenAt h k
/-- Element j of a list of ints. -/
theorem at_mo {w : World} {B n cap : Nat} {A : Option Addr} {l : List Int} (h : OwnL moS w B (.slice A n cap) l) {k : Nat} (hk : k < l.length) :
    ∃ g, A = some ⟨g, 0, none⟩ ∧ w.cell? ⟨g, k, none⟩ = some (.int .i64 l[k]) ∧ w.frozen? ⟨g, k, none⟩ = false := by
  obtain ⟨g, rfl, hc⟩ := h.at_ moS_ok hk
  refine ⟨g, rfl, ?_, ?_⟩
  · have := hc 0 (.int .i64 l[k]) (by decide) rfl
    simpa [moS] using this
  · have h2 := h
    obtain ⟨A', cap', e, _⟩ := h2.form
    injection e with _ e2 _
    subst e2
    exact World.ownsRow.frozenAt h k
/-- While the lists are marked: k of them, and j places of list k. -/
def Mk1 (w0 : World) (B : Nat) (v : Value) (s : List SlV) (C : Nat → List Int) (k j : Nat) (w : World) : Prop :=
  ∃ C', (∀ q, (C' q).length = (C q).length) ∧ (∀ q, q < k → C' q = marks q (C q).length) ∧ (C' k).take j = marks k j ∧ Many moS w B s C' ∧ OwnL goS w B v s ∧ Below B w0 w ∧ KTy moS.tE w0 w
section
variable {w0 w : World} {B k j : Nat} {v : Value} {s : List SlV} {C : Nat → List Int}
theorem Mk1.outer (h : Mk1 w0 B v s C k j w) : OwnL goS w B v s := h.elim fun _ h => h.2.2.2.2.1
theorem Mk1.bel (h : Mk1 w0 B v s C k j w) : Below B w0 w := h.elim fun _ h => h.2.2.2.2.2.1
theorem Mk1.len (h : Mk1 w0 B v s C k j w) {t : SlV} (ht : s[k]? = some t) : t.n = (C k).length := by
  obtain ⟨C', h1, _, _, h4, _⟩ := h
  rw [h4.len ht, h1]
theorem Mk1.cell (h : Mk1 w0 B v s C k j w) {A : Option Addr} {n c : Nat} (ht : s[k]? = some ⟨A, n, c⟩) (hj : j < (C k).length) : ∃ b x, A = some ⟨b, 0, none⟩ ∧ w.cell? ⟨b, j, none⟩ = some x ∧ w.frozen? ⟨b, j, none⟩ = false := by
  obtain ⟨C', h1, _, _, h4, _⟩ := h
  obtain ⟨b, e, hc, hf⟩ := at_mo (h4.own k _ ht) (k := j) (by rw [h1]; exact hj)
  exact ⟨b, _, e, hc, hf⟩
theorem Mk1.put (h : Mk1 w0 B v s C k j w) (hB : B ≤ w0.heap.size) {b n c : Nat} (ht : s[k]? = some ⟨some ⟨b, 0, none⟩, n, c⟩) (hj : j < (C k).length) : Mk1 w0 B v s C k (j + 1) (w.setCell ⟨b, j, none⟩ (.int .i64 (markF (k : Int) (j : Int)))) := by
  have hn := h.len ht
  obtain ⟨C', h1, h2, h3, h4, h5, h6⟩ := h
  simp only [] at hn
  have ho := h4.own k _ ht
  have hl := h4.len ht
  simp only [] at hl
  subst hl
  have hst := World.ownsRow.stored (show w.ownsRow B moS.tE moS.size (.slice (some ⟨b, 0, none⟩) (C' k).length c) (C' k).length (moS.cells (C' k)) from ho) j (.int .i64 (markF (k : Int) (j : Int)))
  refine ⟨updC C' k ((C' k).set j (markF (k : Int) (j : Int))), fun q => ?_, fun q hq => ?_, ?_, h4.put rfl ht j _ _ rfl mo_enc (by rw [h1]; exact hj), ?_, ?_⟩
  · by_cases hqk : q = k
    · subst hqk; rw [updC_same, List.length_set, h1]
    · rw [updC_ne hqk, h1]
  · rw [updC_ne (by omega)]; exact h2 q hq
  · rw [updC_same, marks_succ, ← h3]
    have hj2 : j < (C' k).length := by rw [h1]; exact hj
    rw [List.take_succ_eq_append_getElem (by rw [List.length_set]; exact hj2), List.getElem_set_self, List.take_set_of_le (Nat.le_refl _)]
  · exact h5.keptL ho (by decide) (fun z hz hne => hst.2.block z hz (fun e => hne e.symm))
  · exact ⟨h6.1.grown hst.2 (Nat.le_trans hB h6.1.size) (fun g hg => by injection hg with hg; subst hg; exact (ho.lt b rfl).1), h6.2.kept h6.1.size ho rfl (fun z hz hne => hst.2.block z hz (fun e => hne e.symm))⟩
theorem Mk1.next (h : Mk1 w0 B v s C k j w) (hj : j = (C k).length) : Mk1 w0 B v s C (k + 1) 0 w := by
  obtain ⟨C', h1, h2, h3, h4⟩ := h
  refine ⟨C', h1, fun q hq => ?_, by simp [marks], h4⟩
  by_cases hqk : q = k
  · subst hqk
    rw [← hj, ← h3, List.take_of_length_le (by rw [h1, hj]; exact Nat.le_refl _)]
  · exact h2 q (by omega)
end
theorem goS_enc : ∀ y : SlV, ∃ v, goS.enc y = [v] := fun y => ⟨_, rfl⟩
/-- While the lists are grown. -/
structure M2 (w0 : World) (B : Nat) (v gv : Value) (s gl : List SlV) (O D : Nat → List Int) (w : World) : Prop where
  outer : OwnL goS w B gv gl
  grown : Grown moS w B s gl O D
  lists : OwnL goS w B v s
  far : ∀ b, v.ownBlock = some b → gv.ownBlock ≠ some b
  farS : ∀ (q : Nat) (t : SlV), s[q]? = some t → ∀ b, t.val.ownBlock = some b → gv.ownBlock ≠ some b
  bel : Below B w0 w
  hB : B ≤ w0.heap.size
  kt : KTy moS.tE w0 w
  hgv : ∀ b, gv.ownBlock = some b → w0.heap.size ≤ b
section
variable {w0 w w' : World} {B i : Nat} {v gv : Value} {s gl : List SlV} {O D : Nat → List Int}
theorem M2.below (h : M2 w0 B v gv s gl O D w) (hb : Below w.heap.size w w') : M2 w0 B v gv s gl O D w' :=
  ⟨h.outer.below hb, h.grown.below hb, h.lists.below hb, h.far, h.farS, h.bel.trans (hb.mono (Nat.le_trans h.hB h.bel.size)), h.hB, h.kt.below h.bel.size hb, h.hgv⟩
theorem M2.alloc (h : M2 w0 B v gv s gl O D w) (o : Obj) : M2 w0 B v gv s gl O D (w.alloc o) := h.below ((Below.refl _ _).alloc (Nat.le_refl _) _)
theorem M2.drew (h : M2 w0 B v gv s gl O D w) : M2 w0 B v gv s gl O D w.drew := h.below (Below.refl _ _).drew
theorem M2.drewN (h : M2 w0 B v gv s gl O D w) (n : Nat) : M2 w0 B v gv s gl O D (w.drewN n) := h.below ⟨rfl, rfl, rfl, Nat.le_refl _, fun _ _ => rfl⟩
theorem M2.hBw (h : M2 w0 B v gv s gl O D w) : B ≤ w.heap.size := Nat.le_trans h.hB h.bel.size
theorem M2.own {u : SlV} (h : M2 w0 B v gv s gl O D w) (hu : gl[i]? = some u) : OwnL moS w B u.val (D i) := h.grown.many.own i u hu
theorem M2.ownS {ua : Option Addr} {un uc : Nat} (h : M2 w0 B v gv s gl O D w) (hu : gl[i]? = some ⟨ua, un, uc⟩) : OwnL moS w B (.slice ua un uc) (D i) := h.own hu
/-- Behind an append to list i, its slice not yet stored. -/
theorem M2.app {u : SlV} (h : M2 w0 B v gv s gl O D w) (hu : gl[i]? = some u) {g c n : Nat} {x : Int} (h2 : OwnL moS w' B (.slice (some ⟨g, 0, none⟩) n c) (D i ++ [x])) (h3 : Below B w w') (h3k : KeptBut w w' u.val)
    (h4 : u.val.ownBlock = some g ∨ g = w.heap.size) (h6 : CellsTo w w' u.val ((D i).length * moS.size)) :
    OwnL goS w' B gv gl ∧ OwnL goS w' B v s ∧ Grown moS w' B s (gl.set i ⟨some ⟨g, 0, none⟩, n, c⟩) O (updC D i (D i ++ [x])) ∧ KTy moS.tE w0 w' := by
  refine ⟨h.outer.keptL (h.own hu) (by decide) h3k, h.lists.keptL (h.own hu) (by decide) h3k, ?_, h.kt.kept h.bel.size (h.own hu) rfl h3k⟩
  refine h.grown.step rfl hu ⟨some ⟨g, 0, none⟩, n, c⟩ x h2 h3k ?_ h3.size h6
  rcases h4 with h4 | h4
  · exact Or.inl h4
  · exact Or.inr (by rw [← h4]; rfl)
/-- And stored. -/
theorem M2.stored {gg gc : Nat} {w6 : World} {t : SlV} {D' : Nat → List Int} (hg : Grown moS w6 B s (gl.set i t) O D') (ho : OwnL goS w6 B (.slice (some ⟨gg, 0, none⟩) s.length gc) gl) (hl : OwnL goS w6 B v s) (hi : i < gl.length) (hlen : gl.length = s.length)
    (hf : ∀ b, v.ownBlock = some b → (Value.slice (some ⟨gg, 0, none⟩) s.length gc).ownBlock ≠ some b) (hfS : ∀ (q : Nat) (t : SlV), s[q]? = some t → ∀ b, t.val.ownBlock = some b → (Value.slice (some ⟨gg, 0, none⟩) s.length gc).ownBlock ≠ some b) (hb : Below B w0 w6) (hB : B ≤ w0.heap.size) (hkt : KTy moS.tE w0 w6) (hgv : ∀ b, (Value.slice (some ⟨gg, 0, none⟩) s.length gc).ownBlock = some b → w0.heap.size ≤ b) :
    M2 w0 B v (.slice (some ⟨gg, 0, none⟩) s.length gc) s (gl.set i t) O D' (w6.setCell ⟨gg, i, none⟩ (.slice t.a t.n t.c)) := by
  have ho2 : Many goS w6 B [⟨some ⟨gg, 0, none⟩, s.length, gc⟩] (fun _ => gl) := ⟨fun q u hu => by
    rcases q with _ | q
    · simp at hu; subst hu; exact ho
    · simp at hu, fun p q a b hp hq hpq => by
    rcases p with _ | p <;> rcases q with _ | q <;> simp at hp hq hpq⟩
  have hp := ho2.put (q := 0) rfl (b := gg) (n := s.length) (c := gc) rfl i t (.slice t.a t.n t.c) rfl goS_enc hi
  have ho' : w6.ownsRow B goS.tE goS.size (.slice (some ⟨gg, 0, none⟩) gl.length gc) gl.length (goS.cells gl) := by rw [hlen]; have h := ho; unfold OwnL at h; rw [hlen] at h; exact h
  have hst := World.ownsRow.stored ho' i (.slice t.a t.n t.c)
  have hk : KeptBut w6 (w6.setCell ⟨gg, i, none⟩ (.slice t.a t.n t.c)) (.slice (some ⟨gg, 0, none⟩) s.length gc) := fun k hk hne => hst.2.block k hk (fun e => hne e.symm)
  refine ⟨?_, hg.keptL ho (by decide) hk (by rw [set_size]; exact Nat.le_refl _) hfS, hl.keptNe hk hf, hf, hfS, hb.grown hst.2 (Nat.le_trans hB hb.size) (fun k e => by injection e with e; subst e; exact (ho.lt gg rfl).1), hB, hkt.new hb.size hgv hk, hgv⟩
  · have := hp.own 0 _ rfl
    rw [updC_same] at this
    exact this
/-- Ahead of all growing: the lists marked, the slice of slices copied to a row of its own. -/
theorem M2.start {B2 : Nat} (hB : B ≤ w0.heap.size) (hm : Many moS w B s O) (hl : OwnL goS w B v s) (hb : Below B w0 w) (hkt : KTy moS.tE w0 w) (ho : OwnL goS w' B2 gv s) (h2 : w.heap.size ≤ B2) (hb2 : Below w.heap.size w w') : M2 w0 B v gv s s O O w' := by
  have hgv : ∀ b, b < w.heap.size → gv.ownBlock ≠ some b := fun b hb e => by have := (ho.lt b e).1; omega
  have hBw := Nat.le_trans hB hb.size
  exact ⟨ho.more (Nat.le_trans hBw h2), Grown.start mo_enc rfl (hm.below hb2), hl.below hb2, fun b hv => hgv b (hl.lt b hv).2, fun q t ht b hv => hgv b ((hm.own q t ht).lt b hv).2, hb.trans (hb2.mono hBw), hB, hkt.below hb.size hb2, fun b hv => Nat.le_trans hb.size (Nat.le_trans h2 (ho.lt b hv).1)⟩
theorem M2.at_ {G : Option Addr} {n c : Nat} (h : M2 w0 B v (.slice G n c) s gl O D w) (hi : i < gl.length) : ∃ gg u, G = some ⟨gg, 0, none⟩ ∧ gl[i]? = some u ∧ u.n = (D i).length ∧ w.cell? ⟨gg, i, none⟩ = some (.slice u.a u.n u.c) ∧ gg < w.heap.size := by
  obtain ⟨gg, e, hc, _⟩ := at_go h.outer hi
  refine ⟨gg, gl[i], e, List.getElem?_eq_getElem hi, h.grown.many.len (List.getElem?_eq_getElem hi), hc, ?_⟩
  have ho := h.outer
  rw [e] at ho
  exact (ho.lt gg rfl).2
end
/-- The marks that stand when k rounds are done, and i lists of the next. -/
def Dk (C : Nat → List Int) (k i : Nat) : Nat → List Int := fun q => marks q ((C q).length + k + if q < i then 1 else 0)
theorem Dk_step (C : Nat → List Int) (k i : Nat) : updC (Dk C k i) i (Dk C k i i ++ [markF (i : Int) (((C i).length + k : Nat) : Int)]) = Dk C k (i + 1) := by
  funext q
  by_cases hq : q = i
  · subst hq
    rw [updC_same]
    unfold Dk
    rw [if_neg (by omega), if_pos (by omega), Nat.add_zero, ← marks_succ]
  · rw [updC_ne hq]
    unfold Dk
    by_cases h : q < i
    · rw [if_pos h, if_pos (by omega)]
    · rw [if_neg h, if_neg (by omega)]
theorem Dk_next {C : Nat → List Int} {k n : Nat} (q : Nat) (h : q < n) : Dk C k n q = Dk C (k + 1) 0 q := by
  unfold Dk
  rw [if_pos h, if_neg (by omega)]
  rfl
theorem Dk_zero (C : Nat → List Int) : (fun q => marks q (C q).length) = Dk C 0 0 := by
  funext q
  unfold Dk
  rw [if_neg (by omega)]
  rfl
theorem Dk_len (C : Nat → List Int) (k i : Nat) : (Dk C k i i).length = (C i).length + k := by
  unfold Dk
  rw [marks_len, if_neg (by omega)]
  rfl
theorem Dk_len2 (C : Nat → List Int) (k i : Nat) : (Dk C k 0 i).length = (C i).length + k := by
  unfold Dk
  rw [marks_len, if_neg (by omega)]
  rfl
theorem Grown.congr {α : Type} {S : Shape α} {w : World} {B : Nat} {s g : List SlV} {O D D' : Nat → List α} (h : Grown S w B s g O D) (hd : ∀ q, q < s.length → D q = D' q) (hp : ∀ q, (O q).length ≤ (D' q).length) : Grown S w B s g O D' := by
  refine ⟨⟨fun q t ht => ?_, h.many.apart⟩, h.len, h.old, h.lt, h.apart, hp⟩
  have hq : q < g.length := by
    rcases Nat.lt_or_ge q g.length with h | h
    · exact h
    · rw [List.getElem?_eq_none h] at ht; cases ht
  rw [← hd q (by rw [← h.len]; exact hq)]
  exact h.many.own q t ht
theorem M2.next {w0 w : World} {B k : Nat} {v gv : Value} {s gl : List SlV} {C : Nat → List Int} (h : M2 w0 B v gv s gl (Dk C 0 0) (Dk C k s.length) w) : M2 w0 B v gv s gl (Dk C 0 0) (Dk C (k + 1) 0) w :=
  ⟨h.outer, h.grown.congr (fun q hq => Dk_next q hq) (fun q => by unfold Dk; rw [marks_len, marks_len]; omega), h.lists, h.far, h.farS, h.bel, h.hB, h.kt, h.hgv⟩
theorem mocell {w : World} {nb : Nat} {x : Int} (h : w.cell? ⟨nb, 0, none⟩ = some (.int .i64 x)) : ∀ j u, (moS.enc x)[j]? = some u → w.cell? ⟨nb, j, none⟩ = some u := by
  intro j u hj
  match j, hj with
  | 0, hj => simp [moS] at hj; subst hj; exact h
theorem at_go2 {w : World} {B n cap g : Nat} {s : List SlV} (h : OwnL goS w B (.slice (some ⟨g, 0, none⟩) n cap) s) {k : Nat} (hk : k < s.length) :
    w.cell? ⟨g, k, none⟩ = some (.slice s[k].a s[k].n s[k].c) ∧ w.frozen? ⟨g, k, none⟩ = false := by
  obtain ⟨g', e, h1, h2⟩ := at_go h hk
  injection e with e
  injection e with e _ _
  subst e
  exact ⟨h1, h2⟩
theorem at_go3 {w : World} {B n cap g : Nat} {s : List SlV} (h : OwnL goS w B (.slice (some ⟨g, 0, none⟩) n cap) s) {k : Nat} {ta : Option Addr} {tn tc : Nat} (ht : s[k]? = some ⟨ta, tn, tc⟩) :
    w.cell? ⟨g, k, none⟩ = some (.slice ta tn tc) ∧ g < w.heap.size := by
  have hk : k < s.length := by
    rcases Nat.lt_or_ge k s.length with h | h
    · exact h
    · rw [List.getElem?_eq_none h] at ht; cases ht
  have e : s[k] = ⟨ta, tn, tc⟩ := by rw [List.getElem?_eq_getElem hk] at ht; injection ht
  have := (at_go2 h hk).1
  rw [e] at this
  exact ⟨this, (h.lt g rfl).2⟩
theorem M2.tn {w0 w : World} {B i : Nat} {v gv : Value} {s gl : List SlV} {C D : Nat → List Int} (h : M2 w0 B v gv s gl (Dk C 0 0) D w) {ta : Option Addr} {tn tc : Nat} (ht : s[i]? = some ⟨ta, tn, tc⟩) : tn = (C i).length := by
  have := (h.grown.old i _ ht).1
  simp only [] at this
  rw [this]
  unfold Dk
  rw [marks_len, if_neg (by omega)]
  rfl
theorem M2.gcell {w0 w : World} {B i j k : Nat} {v gv : Value} {s gl : List SlV} {C O : Nat → List Int} (h : M2 w0 B v gv s gl O (Dk C k 0) w) {ua : Option Addr} {un uc : Nat} (hu : gl[i]? = some ⟨ua, un, uc⟩) (hj : j < un) :
    ∃ b, ua = some ⟨b, 0, none⟩ ∧ w.cell? ⟨b, j, none⟩ = some (.int .i64 (markF (i : Int) (j : Int))) ∧ b < w.heap.size := by
  have hl := h.grown.many.len hu
  simp only [] at hl
  have hj2 : j < (Dk C k 0 i).length := by rw [← hl]; exact hj
  obtain ⟨b, rfl, hc, _⟩ := at_mo (h.ownS hu) hj2
  refine ⟨b, rfl, ?_, ((h.ownS hu).lt b rfl).2⟩
  rw [hc]
  have : (Dk C k 0 i)[j]? = some (markF (i : Int) (j : Int)) := marks_get i _ j (by unfold Dk at hj2; rw [marks_len] at hj2; exact hj2)
  rw [List.getElem?_eq_getElem hj2] at this
  injection this with this
  rw [this]
theorem M2.lcell {w0 w : World} {B i j : Nat} {v gv : Value} {s gl : List SlV} {C D : Nat → List Int} (h : M2 w0 B v gv s gl (Dk C 0 0) D w) {ta : Option Addr} {tn tc : Nat} (ht : s[i]? = some ⟨ta, tn, tc⟩) (hj : j < tn) :
    ∃ b, ta = some ⟨b, 0, none⟩ ∧ w.cell? ⟨b, j, none⟩ = some (.int .i64 (markF (i : Int) (j : Int))) ∧ b < w.heap.size := by
  have hn := h.tn ht
  obtain ⟨b, x, h1, h2, h3, h4⟩ := (h.grown.old i _ ht).2 j (markF (i : Int) (j : Int)) (marks_get i _ j (by omega))
  have e : x = .int .i64 (markF (i : Int) (j : Int)) := by
    have : [Value.int .i64 (markF (i : Int) (j : Int))] = [x] := h3
    injection this with this _
    exact this.symm
  exact ⟨b, h1, by rw [h4, e], h2⟩
theorem ownInts_any {w : World} {B : Nat} {v : Value} {s : List SlV} {C : Nat → List Int} (hV : OwnL goS w B v s) (hM : Many moS w B s C) (hC : ∀ q, (C q).length ≤ 960000000000) (hB : B ≤ w.heap.size) (hs : s.length ≤ 960000000000) :
    Calls Tryz.prog 36 #[v] w fun e w' => e = .returned (.bool true) ∧ Below B w w' ∧ KTy moS.tE w w' := by
  obtain ⟨A, cap, rfl, hcap, hcap2⟩ := hV.form
  unfold maxLen at hcap2
  have HV := Lib.hid hV; have HM := Lib.hid hM; have HC := Lib.hid hC; have HB := Lib.hid hB
  have HMK := Lib.hid (fun i j W => Mark_any i j W)
  clear hV hM hC hB
  go_enter Tryz.func36, Tryz.ntmps36
  go_wp2
  go_loopw [15] (fun iv wr => ∃ k : Nat, k ≤ s.length ∧ iv = .int .i64 (k : Int) ∧ Mk1 w B (.slice A s.length cap) s C k 0 wr) (fun iv _ => s.length - (intOf iv).toNat)
  case atStart => exact ⟨0, by omega, rfl, C, fun _ => rfl, fun q hq => by omega, by simp [marks], HM.out, HV.out, Below.refl _ _, KTy.refl _ _⟩
  case round =>
    obtain ⟨k, hk, rfl, hmk⟩ := hrel
    by_cases hlt : k < s.length
    · have HK := Lib.hid hmk
      obtain ⟨g, rfl, z0, f0⟩ := at_go hmk.outer hlt
      have ht : s[k]? = some s[k] := List.getElem?_eq_getElem hlt
      have HL := Lib.hid (hmk.len ht)
      have HT := Lib.hid ht
      have hcl := HC.out k
      rw [← HL.out] at hcl
      clear hmk ht
      generalize s[k] = t at *
      obtain ⟨ta, tn, tc⟩ := t
      simp only [] at hcl z0
      go_wp2
      go_loopw [22] (fun iv wx => ∃ j : Nat, j ≤ tn ∧ iv = .int .i64 (j : Int) ∧ Mk1 w B (.slice (some ⟨g, 0, none⟩) s.length cap) s C k j wx) (fun iv _ => tn - (intOf iv).toNat)
      case atStart => exact ⟨0, by omega, rfl, HK.out⟩
      case round =>
        obtain ⟨j, hj, rfl, hmj⟩ := hrel
        clear z0 f0
        by_cases hjt : j < tn
        · have HJ := Lib.hid hmj
          have hjc : j < (C k).length := by have := HL.out; omega
          obtain ⟨b, x, rfl, z1, f1⟩ := hmj.cell HT.out hjc
          have HP := Lib.hid (hmj.put HB.out HT.out hjc)
          clear hmj
          go_wp2_with (refine (HMK.out _ _ _).mono ?_; rintro e w5 ⟨rfl, rfl⟩)
          go_roundw
          case rel => exact ⟨j + 1, by omega, by go_num, HP.out⟩
          case measure => simp [intOf]; omega
        · have HP := Lib.hid (hmj.next (by have := HL.out; omega))
          clear hmj
          go_wp2
          go_roundw
          case rel => exact ⟨k + 1, by omega, by go_num, HP.out⟩
          case measure => simp [intOf]; omega
    · have hks : k = s.length := by omega
      subst hks
      have HR := Lib.hid hmk
      obtain ⟨C', h1, h2, -, h4, h5, h6⟩ := hmk
      have HMM := Lib.hid (show Many moS wr B s (fun q => marks q (C q).length) from ⟨fun q t ht => by
        have hq : q < s.length := by
          rcases Nat.lt_or_ge q s.length with h | h
          · exact h
          · rw [List.getElem?_eq_none h] at ht; cases ht
        rw [← h2 q hq]
        exact h4.own q t ht, h4.apart⟩)
      have HL5 := Lib.hid h5; have HB6 := Lib.hid h6.1; have HKT := Lib.hid h6.2
      clear h1 h2 h4 h5 h6 C'
      have HL0 := Lib.hid (show OwnL goS (wr.alloc (.cells #[] 23)) wr.heap.size (.slice (some ⟨wr.heap.size, 0, none⟩) 0 0) [] from OwnL.lit0 goS wr (Nat.le_refl _))
      have HR0 := Lib.hid (RdL.of_own (HL5.out.alloc (.cells #[] 23)))
      have hz3 : wr.heap.size ≤ (wr.alloc (.cells #[] 23)).heap.size := by rw [World.size_alloc]; omega
      have hap1 : ([] : List SlV).length + s.length ≤ 970000000000 := by simp; omega
      go_wp2_with (refine OwnL.appendRd goS_ok HL0.out HR0.out rfl _ _ rfl rfl rfl hz3 hap1 ?_; intro v4 w4 ho4 hb4; rw [List.nil_append] at ho4; obtain ⟨A4, c4, rfl, hc4, hc5⟩ := ho4.form; unfold maxLen at hc5; have HB4 := Lib.hid (((Below.refl wr.heap.size wr).alloc (Nat.le_refl _) (.cells #[] 23)).trans hb4); have HO4 := Lib.hid ho4; clear ho4 hb4)
      rw [Dk_zero] at HMM
      have HST := Lib.hid (M2.start HB.out HMM.out HL5.out HB6.out HKT.out HO4.out (Nat.le_refl _) HB4.out)
      clear HR HMM HL5 HB6 HKT HL0 HR0 hz3 hap1 HO4 HB4 HM HV hk hlt
      obtain ⟨wa, rfl⟩ : ∃ wa, wa = wr := ⟨_, rfl⟩
      go_loopw [7] (fun iv wx => ∃ k : Nat, k ≤ 80 ∧ iv = .int .i64 (k : Int) ∧ ∃ gl, M2 w B (.slice A s.length cap) (.slice A4 s.length c4) s gl (Dk C 0 0) (Dk C k 0) wx) (fun iv _ => 80 - (intOf iv).toNat)
      case atStart => exact ⟨0, by omega, rfl, s, HST.out⟩
      case round =>
        clear HST
        obtain ⟨k, hk, rfl, gl, hM⟩ := hrel
        by_cases hk80 : k < 80
        · have HMJ := Lib.hid hM
          clear hM
          have hkd : decide ((k : Int) < 80) = true := decide_eq_true (by omega)
          go_wp2
          obtain ⟨wb, rfl⟩ : ∃ wb, wb = wr := ⟨_, rfl⟩
          go_loopw [42] (fun iv wx => ∃ i : Nat, i ≤ s.length ∧ iv = .int .i64 (i : Int) ∧ ∃ gl, M2 w B (.slice A s.length cap) (.slice A4 s.length c4) s gl (Dk C 0 0) (Dk C k i) wx) (fun iv _ => s.length - (intOf iv).toNat)
          case atStart => exact ⟨0, by omega, rfl, gl, HMJ.out⟩
          case round =>
            clear HMJ
            clear gl
            obtain ⟨i, hi, rfl, gl, hM⟩ := hrel
            by_cases hlt : i < s.length
            · have HMI := Lib.hid hM
              have HGL := Lib.hid hM.grown.len
              have hig : i < gl.length := by rw [HGL.out]; exact hlt
              obtain ⟨gg, u, rfl, hu, hun, z0, hgb⟩ := hM.at_ hig
              obtain ⟨ua, un, uc⟩ := u
              have HU := Lib.hid hu
              have HUN := Lib.hid (show un = (C i).length + k from hun.trans (Dk_len C k i))
              have HLE := Lib.hid (show (Dk C k i i).length + 1 ≤ 970000000000 from by rw [Dk_len]; have := HC.out i; omega)
              have hul : un ≤ 970000000000 := by have := HC.out i; have := HUN.out; omega
              have HIG := Lib.hid hig
              simp only [] at z0
              clear hM hu hun hig
              go_wp2
              go_region_law (first
                | ((with_reducible refine OwnL.stepAppendTo moS_ok (B := B) (v := .slice ua un uc) (l := Dk C k i i) (M2.ownS (w0 := w) (B := B) (v := .slice A s.length cap) (gv := .slice (some ⟨gg, 0, none⟩) s.length c4) (s := s) (gl := gl) (O := Dk C 0 0) (D := Dk C k i) (by (repeat (first | exact HMI.out | with_reducible refine M2.drew ?_ | with_reducible refine M2.alloc ?_ _)); done) HU.out) (markF (i : Int) (un : Int)) _ rfl _ _ rfl rfl rfl (by refine mocell ?_; simp [World.cell?_alloc_new]) (M2.hBw (w0 := w) (B := B) (v := .slice A s.length cap) (gv := .slice (some ⟨gg, 0, none⟩) s.length c4) (s := s) (gl := gl) (O := Dk C 0 0) (D := Dk C k i) (by (repeat (first | exact HMI.out | with_reducible refine M2.drew ?_ | with_reducible refine M2.alloc ?_ _)); done)) HLE.out (fun g6 c6 w6 h2 h3 h3k h4 h5 h6 => ?_)); (have hM6 := M2.app (w0 := w) (B := B) (v := .slice A s.length cap) (gv := .slice (some ⟨gg, 0, none⟩) s.length c4) (s := s) (gl := gl) (O := Dk C 0 0) (D := Dk C k i) (by (repeat (first | exact HMI.out | with_reducible refine M2.drew ?_ | with_reducible refine M2.alloc ?_ _)); done) HU.out h2 h3 h3k h4 h6); (have hB6 := (M2.bel (w0 := w) (B := B) (v := .slice A s.length cap) (gv := .slice (some ⟨gg, 0, none⟩) s.length c4) (s := s) (gl := gl) (O := Dk C 0 0) (D := Dk C k i) (by (repeat (first | exact HMI.out | with_reducible refine M2.drew ?_ | with_reducible refine M2.alloc ?_ _)); done)).trans h3); (obtain ⟨m6, m7⟩ := at_go2 hM6.1 HIG.out); clear h2 h3 h3k h4 h6)
                | (go_simp; go_at_call 30; refine (HMK.out _ _ _).mono ?_; rintro e w5 ⟨rfl, rfl⟩))
              all_goals
                have HS6 := Lib.hid (M2.stored hM6.2.2.1 hM6.1 hM6.2.1 HIG.out HGL.out (HMI.out.far) (HMI.out.farS) hB6 HB.out hM6.2.2.2 (HMI.out.hgv))
                have hdk := Dk_step C k i
                rw [← HUN.out] at hdk
                have HDK := Lib.hid hdk
                simp only [] at HS6
                rw [HDK.out] at HS6
                clear hM6 hB6 m6 m7 hdk
                go_wp2
                go_roundw
                case rel => exact ⟨i + 1, by omega, by go_num, _, HS6.out⟩
                case measure => simp [intOf]; omega
            · have hie : i = s.length := by omega
              subst hie
              have HMI := Lib.hid hM.next
              clear hM
              go_wp2
              go_roundw
              case rel => exact ⟨k + 1, by omega, by go_num, gl, HMI.out⟩
              case measure => simp [intOf]; omega
        · have hke : k = 80 := by omega
          have HKE := Lib.hid hke
          have HMI := Lib.hid hM
          have hkd : decide ((k : Int) < 80) = false := decide_eq_false (by omega)
          clear hM hke hk80 hk
          go_wp2
          obtain ⟨wb, rfl⟩ : ∃ wb, wb = wr := ⟨_, rfl⟩
          go_loopw [65] (fun iv wx => ∃ i : Nat, i ≤ s.length ∧ iv = .int .i64 (i : Int) ∧ M2 w B (.slice A s.length cap) (.slice A4 s.length c4) s gl (Dk C 0 0) (Dk C k 0) wx) (fun iv _ => s.length - (intOf iv).toNat)
          case atStart => exact ⟨0, by omega, rfl, HMI.out⟩
          case round =>
            clear HMI
            obtain ⟨i, hi, rfl, hM⟩ := hrel
            by_cases hlt : i < s.length
            · have HMI := Lib.hid hM
              have hig : i < gl.length := by rw [hM.grown.len]; exact hlt
              obtain ⟨gg, u, rfl, hu, hun, z0, hgb⟩ := hM.at_ hig
              obtain ⟨ua, un, uc⟩ := u
              obtain ⟨ga, rfl, z1, -⟩ := at_go hM.lists hlt
              have ht : s[i]? = some s[i] := List.getElem?_eq_getElem hlt
              generalize s[i] = t at *
              obtain ⟨ta, tn, tc⟩ := t
              have HU := Lib.hid hu
              have HT := Lib.hid ht
              have HUN := Lib.hid (show un = (C i).length + k from hun.trans (Dk_len2 C k i))
              have HTN := Lib.hid (hM.tn ht)
              have hul : un ≤ 970000000000 := by have := HC.out i; have := HUN.out; have := HKE.out; omega
              simp only [] at z0 z1
              clear hM hu ht hun hig
              go_wp2
              obtain ⟨wd, rfl⟩ : ∃ wd, wd = wr := ⟨_, rfl⟩
              go_loopw [72] (fun iv wx => ∃ j : Nat, j ≤ un ∧ iv = .int .i64 (j : Int) ∧ M2 w B (.slice (some ⟨ga, 0, none⟩) s.length cap) (.slice (some ⟨gg, 0, none⟩) s.length c4) s gl (Dk C 0 0) (Dk C k 0) wx) (fun iv _ => un - (intOf iv).toNat)
              case atStart => exact ⟨0, by omega, rfl, HMI.out⟩
              case round =>
                clear HMI z0 z1 hgb
                obtain ⟨j, hj, rfl, hM⟩ := hrel
                by_cases hju : j < un
                · obtain ⟨b, rfl, y0, hb0⟩ := hM.gcell HU.out hju
                  obtain ⟨z1, hz1⟩ := at_go3 hM.lists HT.out
                  by_cases hjt : j < tn
                  · obtain ⟨b2, rfl, y1, hb1⟩ := hM.lcell HT.out hjt
                    have HMJ := Lib.hid hM
                    clear hM
                    go_wp2
                    go_region_law (go_simp; go_at_call 30; refine (HMK.out _ _ _).mono ?_; rintro e w5 ⟨rfl, rfl⟩)
                    all_goals
                      go_wp2
                      simp only [Act.put, List.getElem_toArray, List.getElem_cons_zero, List.getElem_cons_succ, List.setIfInBounds_toArray, List.set_cons_zero, List.set_cons_succ]
                      go_quiet (fail)
                      go_wp2
                      go_roundw
                      case rel => exact ⟨j + 1, by omega, by go_num, HMJ.out.drewN _⟩
                      case measure => simp [intOf]; omega
                  · have HMJ := Lib.hid hM
                    have hjd : decide (j < tn) = false := decide_eq_false hjt
                    clear hM hjt
                    go_wp2
                    go_region_law (go_simp; go_at_call 30; refine (HMK.out _ _ _).mono ?_; rintro e w5 ⟨rfl, rfl⟩)
                    all_goals
                      go_wp2
                      simp only [Act.put, List.getElem_toArray, List.getElem_cons_zero, List.getElem_cons_succ, List.setIfInBounds_toArray, List.set_cons_zero, List.set_cons_succ]
                      go_quiet (fail)
                      go_wp2
                      go_roundw
                      case rel => exact ⟨j + 1, by omega, by go_num, HMJ.out.drewN _⟩
                      case measure => simp [intOf]; omega
                · have HMJ := Lib.hid hM
                  clear hM
                  go_wp2
                  go_roundw
                  case rel => exact ⟨i + 1, by omega, by go_num, HMJ.out⟩
                  case measure => simp [intOf]; omega
            · have HMI := Lib.hid hM
              clear hM
              go_wp2
              go_ret
              exact ⟨rfl, HMI.out.bel, HMI.out.kt⟩
end Go.Proofs.YtmdpfikalekmlaaGreatDoor
end
section
/- A drawn region's operations, one by one: literals of no element, appended to; loads; moves. -/
namespace Go.Proofs.YtmdpfikalekmlaaGreatDoor
open Go.RowKit
set_option linter.unusedVariables false

/-- A slice of no element, just made by operation i. -/
def LitS {α : Type} (S : Shape α) (B i : Nat) (v : Value) (t : Nat → Nat → Prop) (w : World) : Prop := ∃ b, v = .slice (some ⟨b, 0, none⟩) 0 0 ∧ OwnL S w B v [] ∧ t i b
/-- A list appended to it by operation j. -/
def AppS {α : Type} (S : Shape α) (B i j : Nat) (l : List α) (v : Value) (t : Nat → Nat → Prop) (w : World) : Prop := OwnL S w B v l ∧ ∀ b, v.ownBlock = some b → t i b ∨ t j b
section
variable {α : Type} {S : Shape α} {B i j : Nat} {l : List α} {v : Value} {t : Nat → Nat → Prop} {w w' : World}
theorem LitS.below (h : LitS S B i v t w) (hb : Below w.heap.size w w') : LitS S B i v t w' := by
  obtain ⟨b, h1, h2, h3⟩ := h
  exact ⟨b, h1, h2.below hb, h3⟩
theorem AppS.below (h : AppS S B i j l v t w) (hb : Below w.heap.size w w') : AppS S B i j l v t w' := ⟨h.1.below hb, h.2⟩
end
section
variable {P : Program} {ops : Array Oper} {md : Region.Mode} {T : Nat → Nat → Prop} {i j b lo hi : Nat}
theorem maskT_old (hw : Region.waitsFor md ops i j = true) (hne : j ≠ i) (h : T j b) : maskT md ops i (updT T i lo hi) j b := ⟨Or.inr hw, by unfold updT; rw [if_neg hne]; exact h⟩
theorem maskT_new (h1 : lo ≤ b) (h2 : b < hi) : maskT md ops i (updT T i lo hi) i b := ⟨Or.inl rfl, by unfold updT; rw [if_pos rfl]; exact ⟨h1, h2⟩⟩
theorem put_same {a : Act} {d : Nat} {v : Value} (h : d < a.tmps.size) : (a.put (some d) v).tmps.getD d undef = v := by
  unfold Act.put
  simp only []
  rw [getD_put, if_pos ⟨rfl, h⟩]
theorem maskV_of {f : Nat → Value} (hw : Region.waitsFor md ops i j = true) : maskV md ops i f j = f j := if_pos hw
theorem tmpQ {a : Act} {s : Nat} {v : Value} (h : a.tmps.getD s undef = v) : a.tmps[s]?.getD undef = v := by rw [← Array.getD_eq_getD_getElem?]; exact h
theorem GrI.slot {m : Nat} {G : Nat → Value → (Nat → Value) → (Nat → Nat → Prop) → World → Prop} {a0 : Act} {w0 w : World} {listed : Array Bool} {a : Act} (h : GrI md ops m G a0 w0 listed T a w) (s : Nat) (hb : (List.range m).all (fun i => dstAt ops i != some s) = true) : a.tmps.getD s undef = a0.tmps.getD s undef := by
  refine h.off s fun i hi e => ?_
  have := List.all_eq_true.1 hb i (List.mem_range.2 hi)
  rw [e] at this
  simp at this
/-- The slots of some numbers put anew. -/
def putAll (a : Act) (ds : List Nat) (f : Nat → Value) : Act := { a with tmps := ds.foldl (fun l d => l.setIfInBounds d (f d)) a.tmps }
theorem GrI.lit {m : Nat} {G : Nat → Value → (Nat → Value) → (Nat → Nat → Prop) → World → Prop} {a0 : Act} {w0 w : World} {listed : Array Bool} {a : Act} (h : GrI md ops m G a0 w0 listed T a w) (ds : List Nat) (hds : ∀ i d, i < m → dstAt ops i = some d → d ∈ ds) : a = putAll a0 ds fun d => a.tmps.getD d undef := by
  have key : ∀ (ds : List Nat) (l : Array Value), l.size = a.tmps.size → (∀ s, s ∉ ds → l.getD s undef = a.tmps.getD s undef) → ds.foldl (fun l d => l.setIfInBounds d (a.tmps.getD d undef)) l = a.tmps := by
    intro ds
    induction ds with
    | nil =>
      intro l hs hl
      apply Array.ext hs
      intro k h1 h2
      have := hl k (by simp)
      simp [Array.getD, h1, h2] at this
      exact this
    | cons d ds ih =>
      intro l hs hl
      refine ih _ (by rw [Array.size_setIfInBounds]; exact hs) fun s hs2 => ?_
      rw [getD_put]
      by_cases e : d = s
      · subst e
        by_cases h2 : d < l.size
        · rw [if_pos ⟨rfl, h2⟩]
        · rw [if_neg (fun x => h2 x.2)]
          have e1 : ¬ d < a.tmps.size := by rw [← hs]; exact h2
          simp [Array.getD, h2, e1]
      · rw [if_neg (fun x => e x.1)]
        exact hl s (fun hm => (List.mem_cons.1 hm).elim (fun x => e x.symm) hs2)
  have h1 := key ds a0.tmps h.size.symm fun s hs => (h.off s fun i hi e => hs (hds i s hi e)).symm
  have h2 := h.def_
  cases a with
  | mk t d =>
    unfold putAll
    simp only [] at h1 h2 ⊢
    rw [h1, h2]
end
/-- 'append([]T{}, x...)': the append. -/
theorem OwnL.opLit {α : Type} {S : Shape α} (hS : S.Ok) {w : World} {B C b : Nat} {x : Value} {m : List α} (h : OwnL S w B (.slice (some ⟨b, 0, none⟩) 0 0) []) (hx : RdL S w C x m) (hB : B ≤ w.heap.size) {ops : Array Oper} {i : Nat} {o : Oper} {a : Act} {Q : Exit → Act → World → Prop} {K : Act → World → Prop} (hi : ops[i]? = some o) (hgd : o.guard = none) (s y : Operand)
    (ho : o.op = .call { callee := .builtin .append, args := #[s, y], argTypes := #[S.tS, S.tS] }) (hs : a.eval s = .slice (some ⟨b, 0, none⟩) 0 0) (hy : a.eval y = x) (hl : m.length ≤ 970000000000)
    (k : ∀ v' w', OwnL S w' B v' m → Below w.heap.size w w' → (v' = .slice (some ⟨b, 0, none⟩) 0 0 ∨ v'.ownBlock = some w.heap.size ∧ w.heap.size < w'.heap.size) → K (a.put o.dst v') w') :
    wpOp Tryz.prog ops Q i K a w := by
  obtain ⟨i0, hi0, hz0, hz1, hz2⟩ := info_parts hS.info
  obtain ⟨A, cap, rfl, h1, h2, h3, h4⟩ := hx
  have hrun : ∃ v' w', (Builtin.append_ #[S.tS, S.tS] o.type #[.slice (some ⟨b, 0, none⟩) 0 0, .slice A m.length cap]).run Tryz.prog w = .ok v' w' ∧ OwnL S w' B v' m ∧ Below w.heap.size w w' ∧ (v' = .slice (some ⟨b, 0, none⟩) 0 0 ∨ v'.ownBlock = some w.heap.size ∧ w.heap.size < w'.heap.size) := by
    by_cases hm : m = []
    · subst hm
      cases A with
      | none =>
        rw [h4 rfl]
        exact ⟨_, w, run_append_owned_none (P := Tryz.prog) (w := w) B S.tS o.type S.tE i0 S.size hS.under hi0 _ 0 [] h, h, Below.refl _ _, Or.inl rfl⟩
      | some ad =>
        have hr := run_append_room_cells (P := Tryz.prog) (w := w) S.tS o.type S.tE i0 hS.under hi0 b 0 0 0 ad 0 cap [] (by simp) (by simp) (by simp) (by omega) (by simp) (by simp)
        exact ⟨_, _, hr, h, Below.refl _ _, Or.inl rfl⟩
    · have hpos : 0 < m.length := List.length_pos_iff.2 hm
      obtain ⟨ad, rfl, _, hc⟩ := h3 hpos
      have hby := hS.small
      have hmb : m.length * S.bytes ≤ 970000000000 * 145 := Nat.mul_le_mul hl hby
      obtain ⟨g, cap', w', hr, h5, h6, h7, h8, _⟩ := run_append_to (P := Tryz.prog) w B S.tS o.type S.tE i0 S.zero S.size S.bytes hS.under hi0 hz0 hz1 hz2 hS.zs hS.pos (.slice (some ⟨b, 0, none⟩) 0 0) 0 [] h ad m.length cap (S.cells m) (Shape.cells_length hS m) hc (fun u hu => by
          obtain ⟨y, _, hy⟩ := List.mem_flatMap.1 hu
          exact hS.one y u hy) hpos (by unfold maxLen; omega) (by rw [Nat.zero_add]; omega) hB
      have hr2 := run_append_grow (P := Tryz.prog) (w := w) S.tS o.type S.tE i0 S.zero hS.under hi0 hz0 ⟨b, 0, none⟩ 0 0 [] (by simp) (fun j u hu => by simp at hu) ad m.length cap (S.cells m) (by rw [hz1]; exact Shape.cells_length hS m) hc (by omega) (by omega) (growslice_fits (by omega) (by rw [hz2, Nat.zero_add]; omega))
      have e2 := hr.symm.trans hr2
      injection e2 with e3 e4
      injection e3 with e5 _ _
      have hb2 : Below w.heap.size w w' := by
        rw [e4]
        exact (Below.refl _ _).drew.alloc (Nat.le_refl _) _
      refine ⟨_, w', hr, ?_, hb2, Or.inr ⟨?_, ?_⟩⟩
      · unfold OwnL
        have h5' := h5
        rw [Nat.zero_add, List.nil_append] at h5'
        rw [Nat.zero_add]
        exact h5'
      · rw [e5]; rfl
      · rw [e4, World.size_alloc]; exact Nat.lt_succ_self _
  obtain ⟨v', w', hr, g1, g2, g3⟩ := hrun
  refine wpOp_step hi fun K2 hK => ?_
  have hw : Region.wanted o (yielded ops a.tmps) = true := by simp [Region.wanted, hgd]
  rw [if_pos hw]
  unfold Oper.wp execOp
  simp only [ho, resolve, invoke, builtin, Sem.run_bind, Sem.run_pure, Result.andThen_ok, List.map_toArray, List.map_cons, List.map_nil, hs, hy, hr]
  exact hK _ _ (k v' w' g1 g2 g3)
/-- One element, wherever it lies, onto a list of the call's own; where the list lies then. -/
theorem OwnL.appGs {α : Type} {S : Shape α} (hS : S.Ok) {w : World} {B : Nat} {v : Value} {l : List α} (h : OwnL S w B v l) (x : α) (nb : Nat) {ops : Array Oper} {rest : List Oper} {o : Oper} {a : Act} {Q : Exit → Act → World → Prop} (hgd : o.guard = none) (s y : Operand)
    (ho : o.op = .call { callee := .builtin .append, args := #[s, y], argTypes := #[S.tS, S.tS] }) (hs : a.eval s = v) (hy : a.eval y = .slice (some ⟨nb, 0, none⟩) 1 1) (hnb : ∀ j u, (S.enc x)[j]? = some u → w.cell? ⟨nb, j, none⟩ = some u) (hB : B ≤ w.heap.size) (hl : l.length + 1 ≤ 970000000000)
    (k : ∀ g cap w', OwnL S w' B (.slice (some ⟨g, 0, none⟩) (l.length + 1) cap) (l ++ [x]) → Below B w w' → KeptBut w w' v → (v.ownBlock = some g ∨ g = w.heap.size) → g < w'.heap.size → wpList Tryz.prog ops Q rest (a.put o.dst (.slice (some ⟨g, 0, none⟩) (l.length + 1) cap)) w') :
    wpList Tryz.prog ops Q (o :: rest) a w := by
  obtain ⟨i0, hi, hz0, hz1, hz2⟩ := info_parts hS.info
  have hlt := h.lt
  refine wpList_append_lies w hgd s y S.tS ho B S.tE i0 S.zero S.size S.bytes hS.under hi hz0 hz1 hz2 hS.zs hS.pos v l.length (S.cells l) hs h ⟨nb, 0, none⟩ 1 1 (S.enc x) hy (by rw [hS.len, Nat.one_mul]) ?_ (hS.one x) (by decide) ?_ ?_ hB w.heap.size rfl ?_
  · intro j u hj
    rw [show (⟨nb, 0, none⟩ : Addr).add j = ⟨nb, j, none⟩ from by unfold Addr.add; split <;> simp_all]
    exact hnb j u hj
  · unfold maxLen; omega
  · have := hS.small
    have h2 := Nat.mul_le_mul hl this
    omega
  · intro g2 cap2 w' h2 h3 h4 h5
    refine k g2 cap2 w' ?_ ?_ ?_ h4 h5
    · unfold OwnL
      rw [List.length_append, Shape.cells_append, show S.cells [x] = S.enc x from by simp [Shape.cells]]
      exact h2
    · exact (Below.refl _ _).grown h3 hB (fun g hg => (hlt g hg).1)
    · intro b hb hv
      exact h3.block b hb (fun e => hv e.symm)
end Go.Proofs.YtmdpfikalekmlaaGreatDoor
end
section
/- A drawn region in stages: operations s0 .. m - 1 in any order, each only adding; single operations between. -/
namespace Go.Proofs.YtmdpfikalekmlaaGreatDoor
open Go Go.RowKit
set_option linter.unusedVariables false

section
variable {P : Program} {ops : Array Oper} {Q : Exit → Act → World → Prop} {md : Region.Mode}
/-- What an operation may count on: the frame beside the region's own slots; what is done has yielded what G says; T: the blocks that each has made. -/
structure GrJ (md : Region.Mode) (ops : Array Oper) (s0 m : Nat) (G : Nat → Value → (Nat → Value) → (Nat → Nat → Prop) → World → Prop) (a0 : Act) (w0 : World) (listed : Array Bool) (T : Nat → Nat → Prop) (a : Act) (w : World) : Prop where
  bel : Below w0.heap.size w0 w
  def_ : a.defers = a0.defers
  size : a.tmps.size = a0.tmps.size
  off : ∀ s, (∀ i, s0 ≤ i → i < m → dstAt ops i ≠ some s) → a.tmps.getD s undef = a0.tmps.getD s undef
  made : ∀ i, s0 ≤ i → i < m → listed.getD i false = true → G i (valOf ops a i) (maskV md ops i (valOf ops a)) (maskT md ops i T) w
  tlt : ∀ i b, T i b → listed.getD i false = true ∧ w0.heap.size ≤ b ∧ b < w.heap.size
  tdis : ∀ i j b, T i b → T j b → i = j
theorem GrJ.step {s0 m : Nat} {G : Nat → Value → (Nat → Value) → (Nat → Nat → Prop) → World → Prop} {a0 : Act} {w0 w w' : World} {listed : Array Bool} {T : Nat → Nat → Prop} {a : Act} (h : GrJ md ops s0 m G a0 w0 listed T a w)
    (hst : ∀ i v f t w w', G i v f t w → Below w.heap.size w w' → G i v f t w') (hin : ∀ i d, s0 ≤ i → i < m → dstAt ops i = some d → d < a0.tmps.size) (hone : ∀ i j d, s0 ≤ i → i < m → j < ops.size → dstAt ops i = some d → dstAt ops j = some d → i = j)
    (hcl : ∀ i j, s0 ≤ i → i < m → listed.getD i false = true → Region.waitsFor md ops i j = true → listed.getD j false = true)
    {i : Nat} (his : s0 ≤ i) (hi : i < m) {o : Oper} (ho : ops[i]? = some o) (hun : listed.getD i false = false) (hl : i < listed.size) {v : Value} (hb : Below w.heap.size w w') (hv : o.dst = none → v = undef) (hi2 : Region.waitsFor md ops i i = false)
    (hG : G i v (maskV md ops i (valOf ops a)) (maskT md ops i (updT T i w.heap.size w'.heap.size)) w') : GrJ md ops s0 m G a0 w0 (listed.setIfInBounds i true) (updT T i w.heap.size w'.heap.size) (a.put o.dst v) w' := by
  have hdi : dstAt ops i = o.dst := by unfold dstAt; rw [ho]; rfl
  have hsame : ∀ j, j ≠ i → valOf ops (a.put o.dst v) j = valOf ops a j := by
    intro j hj
    unfold valOf
    cases hd : dstAt ops j with
    | none => rfl
    | some d =>
      simp only []
      refine put_getD fun e => ?_
      have hjs : j < ops.size := by
        rcases Nat.lt_or_ge j ops.size with h | h
        · exact h
        · unfold dstAt at hd; rw [Array.getElem?_eq_none h] at hd; cases hd
      exact hj (hone i j d his hi hjs (by rw [hdi, e]) hd).symm
  have hself : valOf ops (a.put o.dst v) i = v := by
    unfold valOf
    rw [hdi]
    unfold Act.put
    cases hd : o.dst with
    | none => exact (hv hd).symm
    | some d =>
      simp only []
      rw [getD_put, if_pos ⟨rfl, by rw [h.size]; exact hin i d his hi (by rw [hdi]; exact hd)⟩]
  refine ⟨h.bel.trans (hb.mono h.bel.size), ?_, ?_, fun s hs => ?_, fun j hjs hj hlj => ?_, fun j b hT => ?_, fun j k b h1 h2 => ?_⟩
  · rw [← h.def_]; unfold Act.put; cases o.dst <;> rfl
  · rw [← h.size]; unfold Act.put; cases o.dst <;> simp
  · rw [← h.off s hs]
    exact put_getD (by rw [← hdi]; exact hs i his hi)
  · by_cases hij : i = j
    · subst hij
      have e : maskV md ops i (valOf ops (a.put o.dst v)) = maskV md ops i (valOf ops a) := by
        funext k
        unfold maskV
        split
        · rename_i hk
          exact hsame k (fun e => by subst e; rw [hi2] at hk; cases hk)
        · rfl
      rw [hself, e]
      exact hG
    · rw [getD_set_ne false hij] at hlj
      have hnw : Region.waitsFor md ops j i = false := by
        cases hw : Region.waitsFor md ops j i with
        | false => rfl
        | true => have := hcl j i hjs hj hlj hw; rw [hun] at this; cases this
      have e : maskV md ops j (valOf ops (a.put o.dst v)) = maskV md ops j (valOf ops a) := by
        funext k
        unfold maskV
        split
        · rename_i hk
          exact hsame k (fun e => by subst e; rw [hnw] at hk; cases hk)
        · rfl
      have e2 : maskT md ops j (updT T i w.heap.size w'.heap.size) = maskT md ops j T := by
        funext k b
        unfold maskT updT
        by_cases hk : k = i
        · subst hk
          rw [hnw]
          have : ¬ k = j := hij
          simp [this]
        · rw [if_neg hk]
      rw [hsame j (fun e => hij e.symm), e, e2]
      exact hst _ _ _ _ _ _ (h.made j hjs hj hlj) hb
  · unfold updT at hT
    by_cases hj : j = i
    · rw [if_pos hj] at hT
      subst hj
      exact ⟨by simp [Array.getD, hl], Nat.le_trans h.bel.size hT.1, hT.2⟩
    · rw [if_neg hj] at hT
      have := h.tlt j b hT
      exact ⟨getD_set_true this.1, this.2.1, Nat.lt_of_lt_of_le this.2.2 hb.size⟩
  · unfold updT at h1 h2
    by_cases hj : j = i <;> by_cases hk : k = i
    · rw [hj, hk]
    · rw [if_pos hj] at h1; rw [if_neg hk] at h2
      have := (h.tlt k b h2).2.2
      omega
    · rw [if_neg hj] at h1; rw [if_pos hk] at h2
      have := (h.tlt j b h1).2.2
      omega
    · rw [if_neg hj] at h1; rw [if_neg hk] at h2
      exact h.tdis j k b h1 h2
/-- Each operation behind number m waits for one from m on. -/
def chain2B (md : Region.Mode) (ops : Array Oper) (m : Nat) : Bool :=
  (List.range ops.size).all fun t => decide (t ≤ m) || (List.range t).any fun j => decide (m ≤ j) && Region.waitsFor md ops t j
theorem tail_waits2 {n : Nat} {listed : Array Bool} (hs : Region.sinkB md ops n = true) (hc : chain2B md ops n = true) (hn : n < ops.size) (inv : HeadInv md ops n listed) :
    ∀ (d i : Nat), n - i = d → i < n → listed.getD i true = false → ∀ t, n ≤ t → t ∉ Region.ready md ops listed := by
  intro d
  induction d using Nat.strongRecOn with
  | _ d ih =>
    intro i hd hi hun t ht hr
    obtain ⟨_, ot, hot, hall⟩ := mem_ready.1 hr
    have htlt : t < ops.size := (Array.getElem?_eq_some_iff.1 hot).1
    by_cases htn : t = n
    · subst htn
      have h1 := List.all_eq_true.1 hs i (List.mem_range.2 hi)
      obtain ⟨j, hj, hj2⟩ := List.any_eq_true.1 h1
      simp only [Bool.and_eq_true, decide_eq_true_eq] at hj2
      obtain ⟨oj, hoj, e, he, hb, hon⟩ := Region.waitsFor_spec hj2.2
      have hjle : j ≤ t := by have := List.mem_range.1 hj; omega
      by_cases hjt : j = t
      · subst hjt
        have : oj = ot := Option.some.inj (hoj.symm.trans hot)
        subst this
        have h2 := hall e he hb
        rw [hon, getD_both hun] at h2
        cases h2
      · cases hl : listed.getD j false with
        | true =>
          have h2 := inv.closed j oj hoj hl e he hb
          rw [hon, getD_both hun] at h2
          cases h2
        | false =>
          have hjs : j < listed.size := by rw [inv.size]; omega
          exact ih (t - j) (by omega) j rfl (by omega) (getD_in hjs hl) t (Nat.le_refl _) hr
    · have h1 := List.all_eq_true.1 hc t (List.mem_range.2 htlt)
      simp only [Bool.or_eq_true, decide_eq_true_eq] at h1
      rcases h1 with h1 | h1
      · omega
      · obtain ⟨j, hj, hj2⟩ := List.any_eq_true.1 h1
        simp only [Bool.and_eq_true, decide_eq_true_eq] at hj2
        obtain ⟨o', ho', e, he, hb, hon⟩ := Region.waitsFor_spec hj2.2
        have : o' = ot := Option.some.inj (ho'.symm.trans hot)
        subst this
        have h2 := hall e he hb
        have hjt := List.mem_range.1 hj
        rw [hon, getD_both (inv.tail j hj2.1 (by omega))] at h2
        cases h2
theorem wpAny_growF {G : Nat → Value → (Nat → Value) → (Nat → Nat → Prop) → World → Prop} {a0 : Act} {w0 : World} (s0 m g : Nat) (hsm : s0 ≤ m) (hm : m + g = ops.size)
    (hst : ∀ i v f t w w', G i v f t w → Below w.heap.size w w' → G i v f t w') (hin : ∀ i d, s0 ≤ i → i < m → dstAt ops i = some d → d < a0.tmps.size) (hone : ∀ i j d, s0 ≤ i → i < m → j < ops.size → dstAt ops i = some d → dstAt ops j = some d → i = j)
    (hcl0 : ∀ i j, i < s0 → Region.waitsFor md ops i j = true → j < s0)
    (hedge : (List.range m).all (fun i => ((ops[i]?).map fun o => o.after.all fun e => decide (e.on < i)).getD true) = true)
    (htail : m = ops.size ∨ (Region.sinkB md ops m = true ∧ chain2B md ops m = true))
    (hop : ∀ (listed : Array Bool) (T : Nat → Nat → Prop) (i : Nat) (o : Oper) (a : Act) (w : World), s0 ≤ i → i < m → ops[i]? = some o → GrJ md ops s0 m G a0 w0 listed T a w → (∀ j, Region.waitsFor md ops i j = true → listed.getD j false = true) → (∀ i j, s0 ≤ i → i < m → listed.getD i false = true → Region.waitsFor md ops i j = true → listed.getD j false = true) →
      ∀ K : Act → World → Prop, (∀ v w', (o.dst = none → v = undef) → Below w.heap.size w w' → G i v (maskV md ops i (valOf ops a)) (maskT md ops i (updT T i w.heap.size w'.heap.size)) w' → K (a.put o.dst v) w') → wpOp P ops Q i K a w)
    (hlast : ∀ (listed : Array Bool) (T : Nat → Nat → Prop) (a : Act) (w : World), (∀ i, i < m → listed.getD i false = true) → GrJ md ops s0 m G a0 w0 listed T a w → wpAny P md ops Q g (upTo ops.size m) a w) :
    wpAny P md ops Q (ops.size - s0) (upTo ops.size s0) a0 w0 := by
  have hmain : ∀ (n : Nat) (listed : Array Bool) (T : Nat → Nat → Prop) (a : Act) (w : World), HeadInv md ops m listed → (∀ i, i < s0 → listed.getD i false = true) → GrJ md ops s0 m G a0 w0 listed T a w →
      (undone listed = n + g) → wpAny P md ops Q (n + g) listed a w := by
    intro n
    induction n with
    | zero =>
      intro listed T a w hinv hs0 hI hu
      have hsz := hinv.size
      have htl := hinv.tail
      have hall : ∀ i, i < m → listed.getD i false = true := by
        have hcount : (listed.toList.drop m).count false = g := by
          have hl : (listed.toList.drop m) = List.replicate g false := by
            apply List.ext_getElem
            · rw [List.length_drop, Array.length_toList, List.length_replicate]; omega
            · intro i h1 h2
              rw [List.getElem_drop, List.getElem_replicate]
              rw [List.length_drop, Array.length_toList] at h1
              have := htl (m + i) (by omega) (by omega)
              simpa [Array.getD, show m + i < listed.size by omega] using this
          rw [hl]; simp
        have hsplit : undone listed = (listed.toList.take m).count false + (listed.toList.drop m).count false := by
          unfold undone; rw [← List.count_append, List.take_append_drop]
        have h0 : (listed.toList.take m).count false = 0 := by omega
        intro i hi
        have hil : i < listed.size := by omega
        have hne : ¬ false ∈ listed.toList.take m := List.count_eq_zero.1 h0
        cases hv : listed.getD i false with
        | true => rfl
        | false =>
          exfalso
          apply hne
          have : listed.toList[i]'(by rw [Array.length_toList]; exact hil) = false := by simpa [Array.getD, hil] using hv
          rw [← this]
          exact List.mem_take_iff_getElem.2 ⟨i, by rw [Array.length_toList]; omega, rfl⟩
      have hL := hlast listed T a w hall hI
      rw [Nat.zero_add, upTo_eq hsz (by omega) hall htl]
      exact hL
    | succ n ih =>
      intro listed T a w hinv hs0 hI hu
      have hsz := hinv.size
      have htl := hinv.tail
      rw [show n + 1 + g = (n + g) + 1 by omega]
      have hex : ∃ i, i < m ∧ listed.getD i true = false ∧ ∀ j, j < i → listed.getD j false = true := by
        have : ∃ i, i < m ∧ listed.getD i true = false := by
          refine Classical.byContradiction fun hn => ?_
          have hall : ∀ i, i < m → listed.getD i true = true := fun i hi => by
            cases h : listed.getD i true with
            | true => rfl
            | false => exact absurd ⟨i, hi, h⟩ hn
          have hle : undone listed ≤ g := by
            unfold undone
            have hsplit : listed.toList.count false = (listed.toList.take m).count false + (listed.toList.drop m).count false := by
              rw [← List.count_append, List.take_append_drop]
            have h0 : (listed.toList.take m).count false = 0 := by
              rw [List.count_eq_zero]
              intro hmem
              obtain ⟨i, hi, he⟩ := List.mem_take_iff_getElem.1 hmem
              rw [Array.length_toList] at hi
              have := hall i (by omega)
              have h3 : i < listed.size := by omega
              simp [Array.getD, h3] at this
              simp [this] at he
            have h1 : (listed.toList.drop m).count false ≤ g := by
              refine Nat.le_trans (List.count_le_length) ?_
              rw [List.length_drop, Array.length_toList]; omega
            omega
          omega
        obtain ⟨i, hi⟩ := this
        induction i using Nat.strongRecOn with
        | _ i ih2 =>
          by_cases hj : ∃ j, j < i ∧ listed.getD j false = false
          · obtain ⟨j, hj1, hj2⟩ := hj
            refine ih2 j hj1 ⟨by omega, ?_⟩
            have : j < listed.size := by omega
            simp [Array.getD, this] at hj2 ⊢
            exact hj2
          · refine ⟨i, hi.1, hi.2, fun j hj1 => ?_⟩
            cases h : listed.getD j false with
            | true => rfl
            | false => exact absurd ⟨j, hj1, h⟩ hj
      obtain ⟨i0, hi0, hu0, hall0⟩ := hex
      have hin0 : i0 < ops.size := by omega
      have hr0 : i0 ∈ Region.ready md ops listed := by
        refine mem_ready.2 ⟨hu0, ops[i0], Array.getElem?_eq_getElem hin0, fun e he hb => ?_⟩
        have h1 := List.all_eq_true.1 hedge i0 (List.mem_range.2 hi0)
        rw [Array.getElem?_eq_getElem hin0] at h1
        simp only [Option.map_some, Option.getD_some] at h1
        have h2 := Array.all_eq_true_iff_forall_mem.1 h1 e he
        exact hall0 e.on (by simpa using h2)
      refine ⟨fun h => (by rw [h] at hr0; cases hr0), fun i hi => ?_⟩
      obtain ⟨hun, o, ho, hafter⟩ := mem_ready.1 hi
      have hil : i < ops.size := (Array.getElem?_eq_some_iff.1 ho).1
      have him : i < m := by
        rcases Nat.lt_or_ge i m with h | h
        · exact h
        · exfalso
          rcases htail with h1 | ⟨h1, h2⟩
          · omega
          · exact tail_waits2 h1 h2 (by omega) hinv _ i0 rfl hi0 hu0 i h hi
      have hwl : ∀ j, Region.waitsFor md ops i j = true → listed.getD j false = true := fun j hj => by
        obtain ⟨o', ho', e, he, hb, hon⟩ := Region.waitsFor_spec hj
        rw [ho] at ho'; cases ho'
        rw [← hon]; exact hafter e he hb
      have hii : Region.waitsFor md ops i i = false := by
        cases hw : Region.waitsFor md ops i i with
        | false => rfl
        | true => have := hwl i hw; rw [getD_both hun] at this; cases this
      have hcl : ∀ i j, s0 ≤ i → i < m → listed.getD i false = true → Region.waitsFor md ops i j = true → listed.getD j false = true := fun j k _ hj hlj hw => by
        obtain ⟨o', ho', e, he, hb, hon⟩ := Region.waitsFor_spec hw
        rw [← hon]; exact hinv.closed j o' ho' hlj e he hb
      have his : s0 ≤ i := by
        rcases Nat.lt_or_ge i s0 with h | h
        · have := hs0 i h; rw [getD_both hun] at this; cases this
        · exact h
      refine hop listed T i o a w his him ho hI hwl hcl _ fun v w' hv hb hG => ?_
      refine ih _ _ _ _ (hinv.set hi him) (fun j hj => getD_set_true (hs0 j hj)) (hI.step hst hin hone hcl his him ho (getD_both hun) (by omega) hb hv hii hG) ?_
      have := undone_set hun
      omega
  have hsz0 : (upTo ops.size s0).size = ops.size := by simp [upTo]
  have hget : ∀ i b, (upTo ops.size s0).getD i b = if i < ops.size then decide (i < s0) else b := fun i b => by
    by_cases h : i < ops.size
    · rw [if_pos h]; simp [upTo, Array.getD, h]
    · rw [if_neg h]; simp [upTo, Array.getD, h]
  have h0 := hmain (m - s0) (upTo ops.size s0) (fun _ _ => False) a0 w0
    ⟨hsz0, fun j oj hj hl e he hb => by
      rw [hget] at hl
      have hjs : j < ops.size := (Array.getElem?_eq_some_iff.1 hj).1
      rw [if_pos hjs] at hl
      have hw : Region.waitsFor md ops j e.on = true := by
        unfold Region.waitsFor
        rw [hj]
        exact Array.any_eq_true'.2 ⟨e, he, by simp [hb]⟩
      have h1 := hcl0 j e.on (of_decide_eq_true hl) hw
      rw [hget, if_pos (by omega)]
      exact decide_eq_true h1, fun t ht ht2 => by rw [hget, if_pos ht2]; exact decide_eq_false (by omega)⟩
    (fun i hi => by rw [hget, if_pos (by omega)]; exact decide_eq_true hi)
    ⟨Below.refl _ _, rfl, rfl, fun _ _ => rfl, fun i hs _ h => (by
      rw [hget] at h
      by_cases h2 : i < ops.size
      · rw [if_pos h2] at h; have := of_decide_eq_true h; omega
      · rw [if_neg h2] at h; cases h), fun _ _ h => h.elim, fun _ _ _ h => h.elim⟩ (by
      have hc : undone (upTo ops.size s0) = ops.size - s0 := by
        unfold undone upTo
        have : ∀ n k, k ≤ n → ((List.range n).map fun i => decide (i < k)).count false = n - k := by
          intro n k hk
          induction n with
          | zero => simp
          | succ n ih2 =>
            rw [List.range_succ, List.map_append, List.count_append]
            by_cases h : k ≤ n
            · rw [ih2 h]
              have : ¬ n < k := by omega
              simp [this]; omega
            · obtain rfl : k = n + 1 := by omega
              have hz : ((List.range n).map fun i => decide (i < n + 1)).count false = 0 := by
                rw [List.count_eq_zero]
                intro hm
                obtain ⟨i, hi, he⟩ := List.mem_map.1 hm
                have := List.mem_range.1 hi
                simp at he; omega
              rw [hz]; simp
        exact this _ _ (by omega)
      rw [hc]; omega)
  rw [show m - s0 + g = ops.size - s0 by omega] at h0
  exact h0
variable {T : Nat → Nat → Prop}
theorem GrJ.slot {s0 m : Nat} {G : Nat → Value → (Nat → Value) → (Nat → Nat → Prop) → World → Prop} {a0 : Act} {w0 w : World} {listed : Array Bool} {a : Act} (h : GrJ md ops s0 m G a0 w0 listed T a w) (s : Nat) (hb : (List.range m).all (fun i => decide (i < s0) || dstAt ops i != some s) = true) : a.tmps.getD s undef = a0.tmps.getD s undef := by
  refine h.off s fun i hs0 hi e => ?_
  have := List.all_eq_true.1 hb i (List.mem_range.2 hi)
  rw [e] at this
  simp at this
  omega
theorem GrJ.lit {s0 m : Nat} {G : Nat → Value → (Nat → Value) → (Nat → Nat → Prop) → World → Prop} {a0 : Act} {w0 w : World} {listed : Array Bool} {a : Act} (h : GrJ md ops s0 m G a0 w0 listed T a w) (ds : List Nat) (hds : ∀ i d, s0 ≤ i → i < m → dstAt ops i = some d → d ∈ ds) : a = putAll a0 ds fun d => a.tmps.getD d undef := by
  have key : ∀ (ds : List Nat) (l : Array Value), l.size = a.tmps.size → (∀ s, s ∉ ds → l.getD s undef = a.tmps.getD s undef) → ds.foldl (fun l d => l.setIfInBounds d (a.tmps.getD d undef)) l = a.tmps := by
    intro ds
    induction ds with
    | nil =>
      intro l hs hl
      apply Array.ext hs
      intro k h1 h2
      have := hl k (by simp)
      simp [Array.getD, h1, h2] at this
      exact this
    | cons d ds ih =>
      intro l hs hl
      refine ih _ (by rw [Array.size_setIfInBounds]; exact hs) fun s hs2 => ?_
      rw [getD_put]
      by_cases e : d = s
      · subst e
        by_cases h2 : d < l.size
        · rw [if_pos ⟨rfl, h2⟩]
        · rw [if_neg (fun x => h2 x.2)]
          have e1 : ¬ d < a.tmps.size := by rw [← hs]; exact h2
          simp [Array.getD, h2, e1]
      · rw [if_neg (fun x => e x.1)]
        exact hl s (fun hm => (List.mem_cons.1 hm).elim (fun x => e x.symm) hs2)
  have h1 := key ds a0.tmps h.size.symm fun s hs => (h.off s fun i h0 hi e => hs (hds i s h0 hi e)).symm
  have h2 := h.def_
  cases a with
  | mk t d =>
    unfold putAll
    simp only [] at h1 h2 ⊢
    rw [h1, h2]
/-- Two frames that are one beside some slots. -/
structure AgreeOff (a0 : Act) (ds : List Nat) (a : Act) : Prop where
  def_ : a.defers = a0.defers
  size : a.tmps.size = a0.tmps.size
  off : ∀ s, s ∉ ds → a.tmps.getD s undef = a0.tmps.getD s undef
theorem AgreeOff.refl (a : Act) (ds : List Nat) : AgreeOff a ds a := ⟨rfl, rfl, fun _ _ => rfl⟩
theorem AgreeOff.put {a0 a : Act} {ds : List Nat} (h : AgreeOff a0 ds a) (d : Nat) (v : Value) (hd : d ∈ ds) : AgreeOff a0 ds (a.put (some d) v) :=
  ⟨h.def_, by rw [← h.size]; unfold Act.put; simp, fun s hs => (put_getD (fun e => hs (by injection e with e; rw [← e]; exact hd))).trans (h.off s hs)⟩
theorem AgreeOff.all {a0 a : Act} {ds ds2 : List Nat} (h : AgreeOff a0 ds a) (f : Nat → Value) (hd : ∀ d ∈ ds2, d ∈ ds) : AgreeOff a0 ds (putAll a ds2 f) := by
  induction ds2 generalizing a with
  | nil => exact h
  | cons d ds2 ih =>
    have := ih (a := a.put (some d) (f d)) (h.put d (f d) (hd d List.mem_cons_self)) (fun x hx => hd x (List.mem_cons_of_mem _ hx))
    exact this
theorem putAll_off {a : Act} {ds : List Nat} {f : Nat → Value} {s : Nat} (hs : s ∉ ds) : (putAll a ds f).tmps.getD s undef = a.tmps.getD s undef := ((AgreeOff.refl a ds).all f (fun _ h => h)).off s hs
theorem putAll_size {a : Act} {ds : List Nat} {f : Nat → Value} : (putAll a ds f).tmps.size = a.tmps.size := ((AgreeOff.refl a ds).all f (fun _ h => h)).size
theorem AgreeOff.lit {a0 a : Act} {ds : List Nat} (h : AgreeOff a0 ds a) : a = putAll a0 ds fun d => a.tmps.getD d undef := by
  have key : ∀ (ds : List Nat) (l : Array Value), l.size = a.tmps.size → (∀ s, s ∉ ds → l.getD s undef = a.tmps.getD s undef) → ds.foldl (fun l d => l.setIfInBounds d (a.tmps.getD d undef)) l = a.tmps := by
    intro ds
    induction ds with
    | nil =>
      intro l hs hl
      apply Array.ext hs
      intro k h1 h2
      have := hl k (by simp)
      simp [Array.getD, h1, h2] at this
      exact this
    | cons d ds ih =>
      intro l hs hl
      refine ih _ (by rw [Array.size_setIfInBounds]; exact hs) fun s hs2 => ?_
      rw [getD_put]
      by_cases e : d = s
      · subst e
        by_cases h2 : d < l.size
        · rw [if_pos ⟨rfl, h2⟩]
        · rw [if_neg (fun x => h2 x.2)]
          have e1 : ¬ d < a.tmps.size := by rw [← hs]; exact h2
          simp [Array.getD, h2, e1]
      · rw [if_neg (fun x => e x.1)]
        exact hl s (fun hm => (List.mem_cons.1 hm).elim (fun x => e x.symm) hs2)
  have h1 := key ds a0.tmps h.size.symm fun s hs => (h.off s hs).symm
  have h2 := h.def_
  cases a with
  | mk t d =>
    unfold putAll
    simp only [] at h1 h2 ⊢
    rw [h1, h2]
/-- A guard that is known. -/
theorem wanted_of {o : Oper} {a : Act} {k s : Nat} {b : Bool} (hg : o.guard = some (k, b)) (hd : dstAt ops k = some s) (hs : s < a.tmps.size) (hv : a.tmps.getD s undef = .bool b) : Region.wanted o (yielded ops a.tmps) = true := by
  unfold Region.wanted yielded
  rw [hg]
  have e : (ops[k]?).bind (·.dst) = some s := hd
  have e2 : a.tmps[s]? = some (.bool b) := by
    rw [Array.getElem?_eq_getElem hs]
    simp [Array.getD, hs] at hv
    rw [hv]
  simp [e, e2]
/-- The one operation that may come up. -/
theorem wpAny_one {k f : Nat} {a : Act} {w : World} (hr : Region.ready md ops (upTo ops.size k) = [k]) (hk : k < ops.size) (h : wpOp P ops Q k (fun a' w' => wpAny P md ops Q f (upTo ops.size (k + 1)) a' w') a w) : wpAny P md ops Q (f + 1) (upTo ops.size k) a w := by
  refine ⟨fun h0 => (by rw [hr] at h0; cases h0), fun i hi => ?_⟩
  rw [hr] at hi
  obtain rfl := List.mem_singleton.1 hi
  have e : (upTo ops.size i).setIfInBounds i true = upTo ops.size (i + 1) := by
    apply Array.ext
    · simp [upTo]
    · intro j h1 h2
      have hj : j < ops.size := by simpa [upTo] using h2
      have hjs : j < (upTo ops.size i).size := by simp [upTo]; exact hj
      rw [Array.getElem_setIfInBounds]
      rotate_left
      · exact hjs
      by_cases hij : i = j
      · subst hij; simp [upTo]
      · rw [if_neg hij]
        simp only [upTo, List.getElem_toArray, List.getElem_map, List.getElem_range]
        exact decide_eq_decide.2 (by omega)
  rw [e]
  exact h
theorem wpAny_end {a : Act} {w : World} {n : Nat} (hn : n = ops.size) (hr : Region.ready md ops (upTo n n) = []) (h : Q .normal a w) : wpAny P md ops Q 0 (upTo n n) a w := ⟨hr, h⟩
theorem upTo_zero (n : Nat) : upTo n 0 = Array.replicate n false := by
  apply Array.ext
  · simp [upTo]
  · intro i h1 h2; simp [upTo]
end
end Go.Proofs.YtmdpfikalekmlaaGreatDoor
end
section
/- concordmem.Spare, Kept: a list with spare room behind it. -/
namespace Go.Proofs.YtmdpfikalekmlaaGreatDoor
open Go.RowKit
set_option maxRecDepth 100000
set_option maxHeartbeats 4000000
set_option linter.unusedSimpArgs false
set_option linter.unusedVariables false

/-- Bytes as numbers. -/
def nums (l : List UInt8) : List Int := l.map fun b => (b.toNat : Int)
theorem nums_len (l : List UInt8) : (nums l).length = l.length := by simp [nums]
theorem nums_cells (l : List UInt8) : MoB.moS.cells (nums l) = byteS.cells l := by
  unfold Shape.cells nums MoB.moS byteS
  induction l with
  | nil => rfl
  | cons x l ih => simp only [List.map_cons, List.flatMap_cons, List.singleton_append]; rw [ih]
theorem RdL.nums {w : World} {C : Nat} {v : Value} {l : List UInt8} (h : RdL byteS w C v l) : RdL MoB.moS w C v (nums l) := by
  obtain ⟨A, cap, e, h1, h2, h3, h4⟩ := h
  refine ⟨A, cap, by rw [nums_len]; exact e, by rw [nums_len]; exact h1, h2, fun hn => ?_, h4⟩
  rw [nums_len] at hn
  obtain ⟨a, ha, hb, hc⟩ := h3 hn
  exact ⟨a, ha, hb, fun j u hu => hc j u (by rw [← nums_cells]; exact hu)⟩
/-- The first bytes of a list of numbers read as bytes. -/
theorem own_front {w : World} {B : Nat} {g m cap : Nat} {l : List UInt8} {r : List Int} (h : OwnL MoB.moS w B (.slice (some ⟨g, 0, none⟩) m cap) (nums l ++ r)) : RdL byteS w w.heap.size (.slice (some ⟨g, 0, none⟩) l.length cap) l := by
  obtain ⟨A, cap', e, h1, h2, h3, h4⟩ := RdL.of_own h
  injection e with e1 e2 e3
  subst e1 e3
  rw [List.length_append, nums_len] at h1 h3
  refine ⟨_, _, rfl, by omega, h2, fun hn => ?_, h4⟩
  obtain ⟨a, ha, hb, hc⟩ := h3 (by omega)
  refine ⟨a, ha, hb, fun j u hu => hc j u ?_⟩
  rw [Shape.cells_append, nums_cells, List.getElem?_append_left]
  · exact hu
  · rcases Nat.lt_or_ge j (byteS.cells l).length with h | h
    · exact h
    · rw [List.getElem?_eq_none h] at hu; cases hu
theorem own_made {w : World} {n : Nat} (hn : n ≤ 1000000000) : OwnL MoB.moS (w.alloc (.cells (List.replicate n (Value.int .u8 0)).toArray 5)) w.heap.size (.slice (some ⟨w.heap.size, 0, none⟩) 0 n) [] := by
  refine ⟨rfl, Or.inr ⟨w.heap.size, n, (List.replicate n (Value.int .u8 0)).toArray, rfl, Nat.le_refl _, heap_alloc_new w _, Nat.zero_le _, by unfold maxLen; omega, by simp [MoB.moS], ?_⟩⟩
  simp [Shape.cells]
theorem mkSpare (n c : Nat) (hn : n ≤ c) (hc : c ≤ 100000000000000) (w : World) : (Instr.makeSlice 26 (.int .i64 (n : Int)) (.int .i64 (c : Int))).run Tryz.prog w = .ok (.slice (some ⟨w.heap.size, 0, none⟩) n c) (w.alloc (.cells (List.replicate c (Value.int .u8 0)).toArray 5)) := by
  obtain ⟨i0, hi, hz0, hz1, hz2⟩ := info_parts infoB
  have h := run_make_rowN 26 5 i0 (.int .u8 0) Tryz.underlying26 hi hz0 .i64 .i64 n c hn (by rw [hz2]; omega) (by omega) w
  rw [h, hz1, Nat.mul_one]
  have e : madeCells (Value.int .u8 0).cells c = (List.replicate c (Value.int .u8 0)).toArray := by
    rw [← toList_madeCells_one]; rfl
  rw [e]
theorem spare_any (v : Value) (l : List UInt8) (w : World) (C : Nat) (hv : RdL byteS w C v l) (hC : C ≤ w.heap.size) (hl : l.length ≤ 500000000) :
    Calls Tryz.prog 31 #[v] w fun e w' => ∃ g cap, e = .returned (.tuple #[.slice (some ⟨g, 0, none⟩) l.length cap, .slice (some ⟨g, 0, none⟩) (l.length + 80) cap]) ∧ OwnL MoB.moS w' w.heap.size (.slice (some ⟨g, 0, none⟩) (l.length + 80) cap) (nums l ++ MoB.marks8 7 80) ∧ Below w.heap.size w w' := by
  obtain ⟨A, vc, rfl, hv1, hv2⟩ := hv.open_
  unfold maxLen at hv2
  have HV := Lib.hid hv.nums
  have hmk : ∀ W : World, (Instr.makeSlice 26 (.int .i64 0) (.int .i64 ((l.length : Int) + 80))).run Tryz.prog W = .ok (.slice (some ⟨W.heap.size, 0, none⟩) 0 (l.length + 80)) (W.alloc (.cells (List.replicate (l.length + 80) (Value.int .u8 0)).toArray 5)) := fun W => mkSpare 0 (l.length + 80) (by omega) (by omega) W
  have HMK := Lib.hid (fun i j W => Mark_any i j W)
  have hm8 : ∀ i j : Int, IntKind.u8.wrap (markF i j) = MoB.mark8 i j := fun _ _ => rfl
  have HO0 := Lib.hid (own_made (w := w) (n := l.length + 80) (by omega))
  have hbA : Below w.heap.size w (w.alloc (.cells (List.replicate (l.length + 80) (Value.int .u8 0)).toArray 5)) := (Below.refl _ _).alloc (Nat.le_refl _) _
  have HBA := Lib.hid hbA
  have HVA := Lib.hid (HV.out.belowW hC hbA)
  have hBs : w.heap.size ≤ (w.alloc (.cells (List.replicate (l.length + 80) (Value.int .u8 0)).toArray 5)).heap.size := hbA.size
  have hap : ([] : List Int).length + (nums l).length ≤ 970000000000 := by rw [nums_len]; simp; omega
  clear hv hbA
  go_enter Tryz.func31, Tryz.ntmps31
  go_wp2_with (refine OwnL.appendRd MoB.moS_ok HO0.out HVA.out rfl _ _ rfl rfl rfl hBs hap ?_; intro v4 w4 ho4 hb4; rw [List.nil_append] at ho4; have HO4 := Lib.hid ho4; have HB4 := Lib.hid (HBA.out.trans hb4); clear ho4 hb4)
  go_loopw [4, 5] (fun fv iv wr => ∃ k : Nat, k ≤ 80 ∧ iv = .int .i64 (k : Int) ∧ OwnL MoB.moS wr w.heap.size fv (nums l ++ MoB.marks8 7 k) ∧ Below w.heap.size w wr) (fun _ iv _ => 80 - (intOf iv).toNat)
  case atStart => exact ⟨0, by omega, rfl, by simpa [MoB.marks8] using HO4.out, HB4.out⟩
  case round =>
    clear HO4 HB4 HO0 HBA HVA hBs hap
    obtain ⟨k, hk, rfl, ho, hb⟩ := hrel
    by_cases hlt : k < 80
    · have HO := Lib.hid ho; have HB := Lib.hid hb
      have hbz := hb.size
      have hln : (nums l ++ MoB.marks8 7 k).length + 1 ≤ 970000000000 := by rw [List.length_append, nums_len, MoB.marks8_len]; omega
      clear ho hb
      go_wp2_with (first
        | (refine (HMK.out _ _ _).mono ?_; rintro e w5 ⟨rfl, rfl⟩)
        | (refine OwnL.append MoB.moS_ok HO.out (MoB.mark8 7 (k : Int)) rfl _ _ rfl rfl rfl _ rfl hbz hln ?_; intro v5 w5 ho5 hb5; have HO5 := Lib.hid ho5; have HB5 := Lib.hid (HB.out.trans hb5); clear ho5 hb5))
      go_roundw
      case rel => exact ⟨k + 1, by omega, by go_num, by rw [MoB.marks8_succ, ← List.append_assoc]; exact HO5.out, HB5.out⟩
      case measure => simp [intOf]; omega
    · obtain rfl : k = 80 := by omega
      have hm : 0 < (nums l ++ MoB.marks8 7 80).length := by rw [List.length_append, MoB.marks8_len]; omega
      obtain ⟨A5, c5, rfl, hc1, hc2⟩ := ho.form
      obtain ⟨g, rfl, -⟩ := ho.at_ MoB.moS_ok hm
      have e5 : (nums l ++ MoB.marks8 7 80).length = l.length + 80 := by rw [List.length_append, nums_len, MoB.marks8_len]
      rw [e5] at ho hc1
      rw [e5]
      have HO := Lib.hid ho; have HB := Lib.hid hb
      unfold maxLen at hc2
      clear ho hb hm e5
      go_wp2
      refine bodyPost_ret (v := .tuple #[.slice (some ⟨g, 0, none⟩) l.length c5, .slice (some ⟨g, 0, none⟩) (l.length + 80) c5]) ?_ rfl ?_
      · simp [results, Tryz.results31, go_sem]
      · exact ⟨g, c5, rfl, HO.out, HB.out⟩
end Go.Proofs.YtmdpfikalekmlaaGreatDoor
end
section
/- concordmem.Kept: is the room still what Spare made of it? -/
namespace Go.Proofs.YtmdpfikalekmlaaGreatDoor
open Go.RowKit
set_option maxRecDepth 100000
set_option maxHeartbeats 4000000
set_option linter.unusedSimpArgs false
set_option linter.unusedVariables false

theorem full_cell {w : World} {B g m cap : Nat} {l : List UInt8} (h : OwnL MoB.moS w B (.slice (some ⟨g, 0, none⟩) m cap) (nums l ++ MoB.marks8 7 80)) :
    (∀ (k : Nat) (hk : k < l.length), w.cell? ⟨g, k, none⟩ = some (.int .u8 l[k].toNat)) ∧ (∀ k : Nat, k < 80 → w.cell? ⟨g, l.length + k, none⟩ = some (.int .u8 (MoB.mark8 7 (k : Int)))) := by
  have hlen : (nums l ++ MoB.marks8 7 80).length = l.length + 80 := by rw [List.length_append, nums_len, MoB.marks8_len]
  refine ⟨fun k hk => ?_, fun k hk => ?_⟩
  · obtain ⟨g', e, hc, _⟩ := MoB.at_mo h (k := k) (by omega)
    injection e with e
    injection e with e _ _
    subst e
    rw [hc]
    have : (nums l ++ MoB.marks8 7 80)[k]? = some ((l[k].toNat : Nat) : Int) := by
      rw [List.getElem?_append_left (by rw [nums_len]; exact hk)]
      simp [nums, hk]
    rw [List.getElem?_eq_getElem (by omega)] at this
    injection this with this
    rw [this]
  · obtain ⟨g', e, hc, _⟩ := MoB.at_mo h (k := l.length + k) (by omega)
    injection e with e
    injection e with e _ _
    subst e
    rw [hc]
    have : (nums l ++ MoB.marks8 7 80)[l.length + k]? = some (MoB.mark8 7 (k : Int)) := by
      rw [List.getElem?_append_right (by rw [nums_len]; omega), nums_len, show l.length + k - l.length = k by omega]
      exact MoB.marks8_get 7 80 k hk
    rw [List.getElem?_eq_getElem (by omega)] at this
    injection this with this
    rw [this]
theorem kept_any (v : Value) (l : List UInt8) (w : World) (B C g cap : Nat) (hv : RdL byteS w C v l) (hC : C ≤ w.heap.size) (hf : OwnL MoB.moS w B (.slice (some ⟨g, 0, none⟩) (l.length + 80) cap) (nums l ++ MoB.marks8 7 80)) (hl : l.length ≤ 500000000) :
    Calls Tryz.prog 33 #[.slice (some ⟨g, 0, none⟩) (l.length + 80) cap, v] w fun e w' => e = .returned (.bool true) ∧ Below w.heap.size w w' := by
  obtain ⟨A, vc, rfl, hv1, hv2⟩ := hv.open_
  unfold maxLen at hv2
  have HF := Lib.hid (full_cell hf)
  have HV := Lib.hid hv
  have HMK := Lib.hid (fun i j W => Mark_any i j W)
  have hm8 : ∀ i j : Int, IntKind.u8.wrap (markF i j) = MoB.mark8 i j := fun _ _ => rfl
  have hgl : g < w.heap.size := (hf.lt g rfl).2
  clear hv hf
  go_enter Tryz.func33, Tryz.ntmps33
  go_wp2
  go_loopw [15] (fun iv wr => ∃ k : Nat, k ≤ l.length ∧ iv = .int .i64 (k : Int) ∧ Below w.heap.size w wr) (fun iv _ => l.length - (intOf iv).toNat)
  case atStart => exact ⟨0, Nat.zero_le _, rfl, Below.refl _ _⟩
  case round =>
    obtain ⟨k, hk, rfl, hb⟩ := hrel
    have HBr := Lib.hid hb
    clear hb
    by_cases hlt : k < l.length
    · obtain ⟨a, rfl, hab, c0⟩ := at_byte (HV.out.belowW hC HBr.out) hlt
      have c1 := (HBr.out.cell (p := ⟨g, k, none⟩) hgl).trans (HF.out.1 k hlt)
      generalize l[k] = z at *
      go_wp2
      go_quiet (fail)
      go_wp2
      go_roundw
      case rel => exact ⟨k + 1, by omega, by go_num, HBr.out.trans ⟨rfl, rfl, rfl, Nat.le_refl _, fun _ _ => rfl⟩⟩
      case measure => simp [intOf]; omega
    · obtain rfl : k = l.length := by omega
      go_wp2
      go_loopw [6] (fun iv wr => ∃ k : Nat, k ≤ 80 ∧ iv = .int .i64 (k : Int) ∧ Below w.heap.size w wr) (fun iv _ => 80 - (intOf iv).toNat)
      case atStart => exact ⟨0, Nat.zero_le _, rfl, HBr.out⟩
      case round =>
        clear HBr
        obtain ⟨k, hk, rfl, hb⟩ := hrel
        have HBr := Lib.hid hb
        clear hb
        by_cases hlt : k < 80
        · have c1 := (HBr.out.cell (p := ⟨g, l.length + k, none⟩) hgl).trans (HF.out.2 k hlt)
          have hkd : decide ((k : Int) < 80) = true := decide_eq_true (by omega)
          have hw1 : IntKind.i64.wrap ((l.length : Int) + (k : Int)) = ((l.length + k : Nat) : Int) := by rw [IntWalk.i64_in _ (by omega)]; omega
          have hb0 : (0 : Int) ≤ (l.length : Int) + (k : Int) := by omega
          have hb1 : (l.length : Int) + (k : Int) < (l.length : Int) + 80 := by omega
          have hb2 : ((l.length : Int) + (k : Int)).toNat = l.length + k := by omega
          have hb3 : l.length + k < l.length + 80 := by omega
          go_wp2
          go_quiet ((go_at_call 30; exact Calls.quiet_of_same (HMK.out _ _ _)))
          go_wp2
          go_roundw
          case rel => exact ⟨k + 1, by omega, by go_num, HBr.out.trans ⟨rfl, rfl, rfl, Nat.le_refl _, fun _ _ => rfl⟩⟩
          case measure => simp [intOf]; omega
        · have hkd : decide ((k : Int) < 80) = false := decide_eq_false (by omega)
          go_wp2
          go_ret
          exact ⟨rfl, HBr.out⟩
end Go.Proofs.YtmdpfikalekmlaaGreatDoor
end
section
/- Layer 20: ownCode: rule 5 of Decode. -/
namespace Go.Proofs.YtmdpfikalekmlaaGreatDoor
open Go.RowKit
set_option maxRecDepth 100000
set_option maxHeartbeats 4000000
set_option linter.unusedSimpArgs false
set_option linter.unusedVariables false

theorem encI_rep (op : Nat) (h : insB ⟨(op : Int), 0, 0⟩ = [UInt8.ofNat op]) (n : Nat) : encI (List.replicate n ⟨(op : Int), 0, 0⟩) = List.replicate n (UInt8.ofNat op) := by
  induction n with
  | zero => rfl
  | succ n ih =>
    rw [List.replicate_succ, List.replicate_succ, ← ih]
    show insB _ ++ encI _ = _
    rw [h]; rfl
theorem rep_ok (op : Nat) (h : insOk ⟨(op : Int), 0, 0⟩ = true) (n : Nat) : (List.replicate n (⟨(op : Int), 0, 0⟩ : Ins)).all insOk = true := by
  rw [List.all_eq_true]
  intro x hx
  rw [(List.mem_replicate.1 hx).2]; exact h
theorem rep_small (op : Nat) (n : Nat) : SmallIns (List.replicate n (⟨(op : Int), 0, 0⟩ : Ins)) := by
  intro x hx
  rw [(List.mem_replicate.1 hx).2]; exact ⟨Nat.zero_lt_succ _, Nat.zero_lt_succ _⟩
theorem decI_one (n : Nat) : decI (List.replicate n 1) = some (List.replicate n ⟨1, 0, 0⟩) := by
  have h := encI_rep 1 (by kernel_rfl) n
  have h2 := decI_encI (rep_ok 1 (by kernel_rfl) n) (rep_small 1 n)
  rw [h] at h2
  exact h2
theorem sameCode_yes (a b : Value) (l : List Ins) (w : World) (B B' : Nat) (ha : RdL insS w B a l) (hb : RdL insS w B' b l) (hB : B ≤ w.heap.size) (hB' : B' ≤ w.heap.size) :
    Calls Tryz.prog 12 #[a, b] w fun e w' => e = .returned (.bool true) ∧ Below w.heap.size w w' :=
  (sameCode_any a b l l w B B' ha hb hB hB').mono fun e w' ⟨h1, h2⟩ => ⟨by rw [h1, decide_eq_true rfl], h2⟩
/-- A struct of three cells, written over. -/
theorem ins_cells (l : List Ins) (i : Nat) (x : Ins) (hi : i < l.length) : (((insS.cells l).set (i * 3) (.int .i64 x.op)).set (i * 3 + 1) (.int .u64 (x.a : Int))).set (i * 3 + 2) (.int .u64 (x.b : Int)) = insS.cells (l.set i x) := by
  induction l generalizing i with
  | nil => simp at hi
  | cons y l ih =>
    have e1 : insS.cells (y :: l) = .int .i64 y.op :: .int .u64 (y.a : Int) :: .int .u64 (y.b : Int) :: insS.cells l := by simp [Shape.cells, insS]
    cases i with
    | zero =>
      have e2 : insS.cells (x :: l) = .int .i64 x.op :: .int .u64 (x.a : Int) :: .int .u64 (x.b : Int) :: insS.cells l := by simp [Shape.cells, insS]
      rw [e1, show 0 * 3 = 0 from rfl, List.set_cons_zero, show (y :: l).set 0 x = x :: l from rfl, e2]
      rfl
    | succ i =>
      have e2 : insS.cells (y :: l.set i x) = .int .i64 y.op :: .int .u64 (y.a : Int) :: .int .u64 (y.b : Int) :: insS.cells (l.set i x) := by simp [Shape.cells, insS]
      rw [e1, List.set_cons_succ, e2, ← ih i (by simpa using hi)]
      rw [show (i + 1) * 3 = i * 3 + 1 + 1 + 1 by omega]
      rfl
theorem OwnL.putIns {w : World} {B g cap : Nat} {l : List Ins} (h : OwnL insS w B (.slice (some ⟨g, 0, none⟩) l.length cap) l) (i : Nat) (x : Ins) (hi : i < l.length) :
    OwnL insS (((w.setCell ⟨g, i * 3, none⟩ (.int .i64 x.op)).setCell ⟨g, i * 3 + 1, none⟩ (.int .u64 (x.a : Int))).setCell ⟨g, i * 3 + 2, none⟩ (.int .u64 (x.b : Int))) B (.slice (some ⟨g, 0, none⟩) l.length cap) (l.set i x) := by
  have h1 := World.ownsRow.stored (show w.ownsRow B insS.tE insS.size (.slice (some ⟨g, 0, none⟩) l.length cap) l.length (insS.cells l) from h) (i * 3) (.int .i64 x.op)
  have h2 := World.ownsRow.stored h1.1 (i * 3 + 1) (.int .u64 (x.a : Int))
  have h3 := World.ownsRow.stored h2.1 (i * 3 + 2) (.int .u64 (x.b : Int))
  unfold OwnL
  rw [List.length_set, ← ins_cells l i x hi]
  exact h3.1
/-- The cells of an instruction of a list of the call's own. -/
theorem own_ins {w : World} {B g n cap : Nat} {l : List Ins} (h : OwnL insS w B (.slice (some ⟨g, 0, none⟩) n cap) l) {i : Nat} (hi : i < l.length) :
    (w.cell? ⟨g, i * 3, none⟩ = some (.int .i64 l[i].op) ∧ w.cell? ⟨g, i * 3 + 1, none⟩ = some (.int .u64 (l[i].a : Int)) ∧ w.cell? ⟨g, i * 3 + 2, none⟩ = some (.int .u64 (l[i].b : Int))) ∧
    w.frozen? ⟨g, i * 3, none⟩ = false ∧ w.frozen? ⟨g, i * 3 + 1, none⟩ = false ∧ w.frozen? ⟨g, i * 3 + 2, none⟩ = false := by
  obtain ⟨g', e, hc⟩ := h.at_ insSOk hi
  injection e with e
  injection e with e _ _
  subst e
  have hn : n = l.length := by
    obtain ⟨A', cap', e, _⟩ := h.form
    injection e
  subst hn
  exact ⟨⟨hc 0 _ (by decide) rfl, hc 1 _ (by decide) rfl, hc 2 _ (by decide) rfl⟩, World.ownsRow.frozenAt h _, World.ownsRow.frozenAt h _, World.ownsRow.frozenAt h _⟩
theorem keptSet3 (w : World) (g : Nat) (a b c : Nat) (x y z : Value) (n cap : Nat) : KeptBut w (((w.setCell ⟨g, a, none⟩ x).setCell ⟨g, b, none⟩ y).setCell ⟨g, c, none⟩ z) (.slice (some ⟨g, 0, none⟩) n cap) := by
  intro k hk hne
  have h : k ≠ g := fun e => hne (by rw [e]; rfl)
  rw [Below.heap_setCell _ _ _ k h, Below.heap_setCell _ _ _ k h, Below.heap_setCell _ _ _ k h]
theorem keptSet1 (w : World) (g : Nat) (a : Nat) (x : Value) (n cap : Nat) : KeptBut w (w.setCell ⟨g, a, none⟩ x) (.slice (some ⟨g, 0, none⟩) n cap) := by
  intro k hk hne
  have h : k ≠ g := fun e => hne (by rw [e]; rfl)
  rw [Below.heap_setCell _ _ _ k h]
/-- The front of the room, written over. -/
theorem OwnL.putNum {w : World} {B g n cap : Nat} {l : List Int} (h : OwnL MoB.moS w B (.slice (some ⟨g, 0, none⟩) n cap) l) (i : Nat) (x : Int) : OwnL MoB.moS (w.setCell ⟨g, i, none⟩ (.int .u8 x)) B (.slice (some ⟨g, 0, none⟩) n cap) (l.set i x) := by
  have hn : n = l.length := by
    obtain ⟨A', cap', e, _⟩ := h.form
    injection e
  subst hn
  have hst := World.ownsRow.stored (show w.ownsRow B MoB.moS.tE MoB.moS.size (.slice (some ⟨g, 0, none⟩) l.length cap) l.length (MoB.moS.cells l) from h) i (.int .u8 x)
  have hset : ∀ (l : List Int) (i : Nat), (MoB.moS.cells l).set i (.int .u8 x) = MoB.moS.cells (l.set i x) := by
    intro l
    induction l with
    | nil => intro i; simp [Shape.cells]
    | cons y l ih =>
      intro i
      have e1 : MoB.moS.cells (y :: l) = .int .u8 y :: MoB.moS.cells l := by simp [Shape.cells, MoB.moS]
      cases i with
      | zero => rw [e1, List.set_cons_zero, List.set_cons_zero]; simp [Shape.cells, MoB.moS]
      | succ i => rw [e1, List.set_cons_succ, List.set_cons_succ, ih]; simp [Shape.cells, MoB.moS]
  unfold OwnL
  rw [List.length_set, ← hset]
  exact hst.1
theorem set_front {α : Type} (x : α) (l r : List α) (k n : Nat) (hn : l.length = n) (hk : k < n) : (List.replicate k x ++ l.drop k ++ r).set k x = List.replicate (k + 1) x ++ l.drop (k + 1) ++ r := by
  have h1 : l.drop k = l[k] :: l.drop (k + 1) := List.drop_eq_getElem_cons (by omega)
  rw [h1, List.append_assoc, List.set_append_right _ _ (by simp), List.length_replicate, Nat.sub_self, List.cons_append, List.set_cons_zero, List.replicate_succ', List.append_assoc, List.append_assoc]
  rfl
end Go.Proofs.YtmdpfikalekmlaaGreatDoor
end
section
/- Slices of strings; appending what came in. -/
namespace Go.Proofs.YtmdpfikalekmlaaGreatDoor
open Go.RowKit Go.ChangeShapes Go.WideShapes Go.Deep
set_option maxRecDepth 100000

def strS : Shape ByteArray := { tS := 59, tE := 9, size := 1, bytes := 16, enc := fun x => [.string x], zero := .string ⟨#[]⟩ }
theorem strOk : strS.Ok where
  under := Tryz.underlying59
  info := by kernel_rfl
  zs := rfl
  pos := by decide
  len := fun _ => rfl
  one := fun x u hu => by
    simp only [strS, List.mem_cons, List.not_mem_nil, or_false] at hu
    subst hu; rfl
  small := by decide
theorem at_str {w : World} {B : Nat} {A : Option Addr} {n cap : Nat} {l : List ByteArray} (h : RdL strS w B (.slice A n cap) l) {k : Nat} (hk : k < l.length) :
    ∃ a, A = some a ∧ (a.add k).block < B ∧ w.cell? (a.add k) = some (.string l[k]) := by
  obtain ⟨a, rfl, hb, h0, h⟩ := h.at2 strOk hk
  have e : k * strS.size = k := Nat.mul_one k
  rw [e] at hb h0
  exact ⟨a, rfl, hb, h0 _ rfl⟩
/-- A value of a slice's type is a slice. -/
theorem slice_of_ok {P : Program} {W : World} {t e : TypeId} {v : Value} {A : Option Addr} {n c : Nat} (ht : P.underlying t = some (.slice e)) (hv : Value.okWide P W .any 0 t v) (h : v.cells.toList = [.slice A n c]) : v = .slice A n c := by
  unfold Value.okWide at hv
  simp only [ht] at hv
  unfold Cell.okWide at hv
  cases v <;> simp [Value.cells, Cell.ok, ht] at hv h
  obtain ⟨rfl, rfl, rfl⟩ := h
  rfl
theorem open_strs {H : Type} {enc : TypeId × Value → H} {W : World} {v : Value} {d : DataW H} {p : List MemPlace} (hv : Value.okWide Tryz.prog W .any 0 59 v) (h0 : DataW.Trod enc Tryz.prog W 0 (fun _ => true) true 59 v d p) :
    ∃ (l : List ByteArray), RdL strS W W.heap.size v l ∧ l.length ≤ Rows.uptoBulk d ∧ ∀ s ∈ l, s.size ≤ maxLen ∧ s.size ≤ Rows.uptoBulk d := by
  obtain ⟨fuel, h⟩ := h0
  have hlt := DataW.trod_lt fuel _ _ _ h
  have hC : Tryz.prog.cellsOf 9 = 1 := by kernel_rfl
  rcases open_slice Tryz.underlying59 h with ⟨hc, hx⟩ | ⟨a, len, cap, m, n, D, Pl, hc, _, hl, hm, hmm, hx, hf⟩
  · have := slice_of_ok Tryz.underlying59 hv hc
    subst this
    exact ⟨[], RdL.nil _ _ _, by simp, fun _ h => (by cases h)⟩
  · rw [if_pos rfl] at hmm
    obtain rfl : cap = m := hmm.symm
    have := slice_of_ok Tryz.underlying59 hv hc
    subst this
    simp only [Prod.mk.injEq] at hx
    obtain ⟨hd, hp⟩ := hx
    by_cases h0 : len = 0
    · subst h0
      exact ⟨[], ⟨some a, cap, rfl, hl, hm, fun h => (by simp at h), fun h => by cases h⟩, by simp, fun _ h => (by cases h)⟩
    have hblk : a.block < W.heap.size := hlt (.cell a.block a.off) (by
      show MemPlace.cell a.block a.off ∈ p
      rw [hp, hC]
      simp only [List.mem_append]
      left
      simp only [MemPlace.row, List.mem_map, List.mem_range]
      exact ⟨0, by omega, rfl⟩)
    obtain ⟨l, h1, h2, h3⟩ := RdL.of_cells (S := strS) strOk (w := W) (B := W.heap.size) (a := a) (len := len) (cap := cap) hblk hl hm (fun i f => f.size ≤ maxLen ∧ f.size ≤ Rows.uptoBulk (D i)) (by
      intro i hi
      obtain ⟨cs', hcc, ht⟩ := hf i (by omega)
      obtain ⟨s, e0, e1, hs⟩ := DataW.trod_string Tryz.underlying9 ht
      subst e0
      simp only [Prod.mk.injEq] at e1
      rw [hC] at hcc
      obtain ⟨_, _, hat⟩ := World.cells?_some hcc
      refine ⟨s, ⟨hs, ?_⟩, fun j u hj hu => ?_⟩
      · rw [e1.1, bulk_string, ← ba_size]; omega
      · obtain rfl : j = 0 := by simp only [strS] at hj; omega
        cases hu
        have := hat 0 (by omega)
        rw [add_of_add] at this
        exact this)
    refine ⟨l, h2, ?_, ?_⟩
    · have e := bulk_len ((List.range len).map D)
      have := bulk_slice ((List.range len).map D) ((List.range (cap - len)).map fun j => D (len + j))
      rw [List.length_map, List.length_range] at e
      rw [hd]
      exact Nat.le_trans (show l.length ≤ Rows.uptoBulkAll ((List.range len).map D) + 1 by omega) this
    · intro f hf
      obtain ⟨i, hi, rfl⟩ := List.getElem_of_mem hf
      refine ⟨(h3 i hi).1, ?_⟩
      have h4 := (h3 i hi).2
      have h5 : Rows.uptoBulk (D i) ≤ Rows.uptoBulkAll ((List.range len).map D) := bulk_mem (List.mem_map.2 ⟨i, List.mem_range.2 (by omega), rfl⟩)
      have := bulk_slice ((List.range len).map D) ((List.range (cap - len)).map fun j => D (len + j))
      rw [hd]
      exact Nat.le_trans (show l[i].size ≤ Rows.uptoBulkAll ((List.range len).map D) + 1 by omega) this
end Go.Proofs.YtmdpfikalekmlaaGreatDoor
end
