/- Merged for a claim by shake.py: Ua Uc Ue Uf Nl Ug -/
import Derived.Test.YthcldpminmhgkaaDoorKrA
import Derived.Deep.RegionLaw
import Derived.Test.YthcldpminmhgkaaDoorKr8
set_option maxRecDepth 100000
set_option maxHeartbeats 8000000
set_option linter.unusedSimpArgs false
set_option linter.unusedVariables false
section
namespace Go.Proofs.YthcldpminmhgkaaDoor
open Go.RowKit
structure Sl where
 a : Option Addr
 n : Nat
 c : Nat
def Sl.v (s : Sl) : Value := .slice s.a s.n s.c
structure NV where
 kind : Int
 field : List UInt8
 text : List UInt8
 n : Int
 lo : Bd
 hi : Bd
 occ : Sl
 kids : Sl
def NV.cells (x : NV) : List Value := [.int .i64 x.kind, .string (str x.field), .string (str x.text), .int .i64 x.n, .bool x.lo.open_, .bool x.lo.in_, .string (str x.lo.text), .bool x.hi.open_, .bool x.hi.in_, .string (str x.hi.text), .slice x.occ.a x.occ.n x.occ.c, .slice x.kids.a x.kids.n x.kids.c]
def NV.val (x : NV) : Value := .agg #[.int .i64 x.kind, .string (str x.field), .string (str x.text), .int .i64 x.n, .bool x.lo.open_, .bool x.lo.in_, .string (str x.lo.text), .bool x.hi.open_, .bool x.hi.in_, .string (str x.hi.text), .slice x.occ.a x.occ.n x.occ.c, .slice x.kids.a x.kids.n x.kids.c]
def ndS : Shape NV := { tS := 25, tE := 27, size := 12, bytes := 144, enc := NV.cells, zero := .agg zA }
theorem ndOk : ndS.Ok where
 under := Tryd.underlying25
 info := by kernel_rfl
 zs := rfl
 pos := by decide
 len := fun _ => rfl
 one := fun x u hu => by
  simp only [ndS, NV.cells, List.mem_cons, List.not_mem_nil, or_false] at hu
  rcases hu with rfl | rfl | rfl | rfl | rfl | rfl | rfl | rfl | rfl | rfl | rfl | rfl <;> rfl
 small := by decide
def RdF {α : Type} (S : Shape α) (w : World) (F : Nat → Prop) (s : Sl) (l : List α) : Prop :=
 s.n = l.length ∧ s.n ≤ s.c ∧ s.c ≤ maxLen ∧ (0 < l.length → ∃ a, s.a = some a ∧ F a.block ∧ ∀ j u, (S.cells l)[j]? = some u → w.cell? (a.add j) = some u) ∧ (s.a = none → s.c = 0)
section
variable {α : Type} {S : Shape α} {w w' : World} {F G : Nat → Prop} {s : Sl} {l : List α}
theorem RdF.rd {B : Nat} (h : RdF S w F s l) (hF : ∀ b, F b → b < B) : RdL S w B (.slice s.a s.n s.c) l := by
 obtain ⟨h1, h2, h3, h4, h5⟩ := h
 rw [h1] at h2 ⊢
 refine ⟨s.a, s.c, rfl, h2, h3, fun hn => ?_, h5⟩
 obtain ⟨a, e, hb, hc⟩ := h4 hn
 exact ⟨a, e, hF _ hb, hc⟩
theorem RdF.mono (h : RdF S w F s l) (hFG : ∀ b, F b → G b) : RdF S w G s l := by
 obtain ⟨h1, h2, h3, h4, h5⟩ := h
 refine ⟨h1, h2, h3, fun hn => ?_, h5⟩
 obtain ⟨a, e, hb, hc⟩ := h4 hn
 exact ⟨a, e, hFG _ hb, hc⟩
theorem RdF.keep (h : RdF S w F s l) (hk : ∀ p : Addr, F p.block → p.block < w.heap.size → w'.cell? p = w.cell? p) : RdF S w' F s l := by
 obtain ⟨h1, h2, h3, h4, h5⟩ := h
 refine ⟨h1, h2, h3, fun hn => ?_, h5⟩
 obtain ⟨a, e, hb, hc⟩ := h4 hn
 refine ⟨a, e, hb, fun j u hu => ?_⟩
 have h6 := hc j u hu
 rw [hk _ (by rw [block_of_add]; exact hb) (World.block_lt_of_cell? w _ h6)]
 exact h6
theorem RdF.nil (S : Shape α) (w : World) (F : Nat → Prop) : RdF S w F ⟨none, 0, 0⟩ [] := ⟨rfl, Nat.le_refl _, (by show 0 ≤ _; exact Nat.zero_le _), fun h => by simp at h, fun _ => rfl⟩
theorem RdF.of_own {B : Nat} {A : Option Addr} {n c : Nat} (h : OwnL S w B (.slice A n c) l) (hF : ∀ g, A = some ⟨g, 0, none⟩ → B ≤ g → g < w.heap.size → F g) : RdF S w F ⟨A, n, c⟩ l := by
 have hrd := RdL.of_own h
 obtain ⟨A', c', e, h1, h2, h3, h4⟩ := hrd
 injection e with e1 e2 e3
 subst e1 e2 e3
 refine ⟨rfl, h1, h2, fun hn => ?_, h4⟩
 obtain ⟨a, e, hb, hc⟩ := h3 hn
 refine ⟨a, e, ?_, hc⟩
 rcases h.2 with ⟨e2, h0⟩ | ⟨g, cap, cur, hv, hg, hh, _⟩
 ·omega
 ·injection hv with hv _ _
  rw [e] at hv
  injection hv with hv
  subst hv
  exact hF g e hg hb
end
inductive NdR (w : World) (F : Nat → Prop) : NV → Nd → Prop
 | mk {kind n : Int} {field text : List UInt8} {lo hi : Bd} {so sk : Sl} {occ : List Int} {nl : List NV} {kids : List Nd} : RdF folS w F so occ → RdF ndS w F sk nl → nl.length = kids.length →
   (∀ (i : Nat) (x : NV) (t : Nd), nl[i]? = some x → kids[i]? = some t → NdR w F x t) → NdR w F ⟨kind, field, text, n, lo, hi, so, sk⟩ (.mk kind field text n lo hi occ kids)
theorem NdR.mono {w : World} {F G : Nat → Prop} {x : NV} {t : Nd} (h : NdR w F x t) (hFG : ∀ b, F b → G b) : NdR w G x t := by
 induction h with
 | mk h1 h2 h3 _ ih => exact .mk (h1.mono hFG) (h2.mono hFG) h3 fun i x t hx ht => ih i x t hx ht
theorem NdR.keep {w w' : World} {F : Nat → Prop} {x : NV} {t : Nd} (h : NdR w F x t) (hk : ∀ p : Addr, F p.block → p.block < w.heap.size → w'.cell? p = w.cell? p) : NdR w' F x t := by
 induction h with
 | mk h1 h2 h3 _ ih => exact .mk (h1.keep hk) (h2.keep hk) h3 fun i x t hx ht => ih i x t hx ht
def NdRs (w : World) (F : Nat → Prop) (nl : List NV) (ts : List Nd) : Prop := nl.length = ts.length ∧ ∀ (i : Nat) (x : NV) (t : Nd), nl[i]? = some x → ts[i]? = some t → NdR w F x t
section
variable {w w' : World} {F G : Nat → Prop} {nl : List NV} {ts : List Nd}
theorem NdRs.mono (h : NdRs w F nl ts) (hFG : ∀ b, F b → G b) : NdRs w G nl ts := ⟨h.1, fun i x t hx ht => (h.2 i x t hx ht).mono hFG⟩
theorem NdRs.keep (h : NdRs w F nl ts) (hk : ∀ p : Addr, F p.block → p.block < w.heap.size → w'.cell? p = w.cell? p) : NdRs w' F nl ts := ⟨h.1, fun i x t hx ht => (h.2 i x t hx ht).keep hk⟩
theorem NdRs.nil (w : World) (F : Nat → Prop) : NdRs w F [] [] := ⟨rfl, fun i x t hx _ => by simp at hx⟩
theorem NdRs.snoc {x : NV} {t : Nd} (h : NdRs w F nl ts) (hx : NdR w F x t) : NdRs w F (nl ++ [x]) (ts ++ [t]) := by
 refine ⟨by rw [List.length_append, List.length_append, h.1]; rfl, fun i y s hy hs => ?_⟩
 by_cases hi : i < nl.length
 ·rw [List.getElem?_append_left hi] at hy
  rw [List.getElem?_append_left (by rw [← h.1]; exact hi)] at hs
  exact h.2 i y s hy hs
 ·rw [List.getElem?_append_right (by omega)] at hy
  rw [List.getElem?_append_right (by rw [← h.1]; omega), ← h.1] at hs
  obtain ⟨k, hk⟩ : ∃ k, k = i - nl.length := ⟨_, rfl⟩
  rw [← hk] at hy hs
  cases k with
  | zero => simp only [List.getElem?_cons_zero, Option.some.injEq] at hy hs; subst hy hs; exact hx
  | succ k => simp at hy
end
def rng (C D : Nat) : Nat → Prop := fun b => C ≤ b ∧ b < D
structure PB (pb : Nat) (w w' : World) : Prop where
 below : Below pb w w'
 keep : ∀ b, b < w.heap.size → b ≠ pb → w'.heap[b]? = w.heap[b]?
section
variable {pb : Nat} {w w' w'' : World}
theorem PB.refl (pb : Nat) (w : World) : PB pb w w := ⟨Below.refl _ _, fun _ _ _ => rfl⟩
theorem PB.size (h : PB pb w w') : w.heap.size ≤ w'.heap.size := h.below.size
theorem PB.trans (h : PB pb w w') (h2 : PB pb w' w'') : PB pb w w'' :=
 ⟨h.below.trans h2.below, fun b hb hp => (h2.keep b (Nat.lt_of_lt_of_le hb h.size) hp).trans (h.keep b hb hp)⟩
theorem PB.of (h : Below w.heap.size w w') (hp : pb ≤ w.heap.size) : PB pb w w' := ⟨h.mono hp, fun b hb _ => h.block b hb⟩
theorem PB.set_ (i : Nat) (u : Value) : PB pb w (w.setCell ⟨pb, i, none⟩ u) :=
 ⟨(Below.refl _ _).setCell (p := ⟨pb, i, none⟩) (Nat.le_refl _) _, fun b _ hp => Below.heap_setCell w ⟨pb, i, none⟩ u b hp⟩
theorem PB.new {z i : Nat} {u : Value} (h : PB pb w w') (hp : pb ≤ w.heap.size) (hz : w.heap.size ≤ z) : PB pb w (w'.setCell ⟨z, i, none⟩ u) :=
 ⟨h.below.setCell (p := ⟨z, i, none⟩) (Nat.le_trans hp hz) _, fun b hb hn => (Below.heap_setCell w' ⟨z, i, none⟩ u b (by show b ≠ z; omega)).trans (h.keep b hb hn)⟩
theorem PB.alloc (h : PB pb w w') (hp : pb ≤ w.heap.size) (o : Obj) : PB pb w (w'.alloc o) :=
 h.trans (.of ((Below.refl _ _).alloc (Nat.le_refl _) o) (Nat.le_trans hp h.size))
theorem PB.cell (h : PB pb w w') (p : Addr) (hp : p.block < w.heap.size) (hn : p.block ≠ pb) : w'.cell? p = w.cell? p := World.cell?_of_block (h.keep _ hp hn)
end
theorem NdR.pb {pb : Nat} {w w' : World} {F : Nat → Prop} {x : NV} {t : Nd} (h : NdR w F x t) (hk : PB pb w w') (hF : ∀ b, F b → b ≠ pb) : NdR w' F x t := h.keep fun p hp hlt => hk.cell p hlt (hF _ hp)
theorem NdRs.pb {pb : Nat} {w w' : World} {F : Nat → Prop} {nl : List NV} {ts : List Nd} (h : NdRs w F nl ts) (hk : PB pb w w') (hF : ∀ b, F b → b ≠ pb) : NdRs w' F nl ts := h.keep fun p hp hlt => hk.cell p hlt (hF _ hp)
theorem OwnL.pb {α : Type} {S : Shape α} {pb B : Nat} {w w' : World} {v : Value} {l : List α} (h : OwnL S w B v l) (hk : PB pb w w') (hp : pb < B) : OwnL S w' B v l := by
 refine ⟨h.1, ?_⟩
 rcases h.2 with h2 | ⟨g, cap, cur, hv, hg, hh, r⟩
 ·exact Or.inl h2
 ·refine Or.inr ⟨g, cap, cur, hv, hg, ?_, r⟩
  have hlt : g < w.heap.size := by
   rcases Nat.lt_or_ge g w.heap.size with h | h
   ·exact h
   ·rw [Array.getElem?_eq_none h] at hh; cases hh
  rw [hk.keep g hlt (by omega)]; exact hh
structure PsAt (w : World) (pb : Nat) (A : Option Addr) (cap : Nat) (ts : List Lt) (k : Nat) : Prop where
 blk : Blk w pb 85 #[.slice A ts.length cap, .int .i64 (k : Int)]
 rd : RdL ltS w pb (.slice A ts.length cap) ts
section
variable {w w' : World} {pb cap k : Nat} {A : Option Addr} {ts : List Lt}
theorem PsAt.lt (h : PsAt w pb A cap ts k) : pb < w.heap.size := h.blk.lt
theorem PsAt.belowW (h : PsAt w pb A cap ts k) (hb : Below w.heap.size w w') : PsAt w' pb A cap ts k := ⟨h.blk.belowW hb, h.rd.belowW (Nat.le_of_lt h.lt) hb⟩
theorem PsAt.alloc (h : PsAt w pb A cap ts k) (o : Obj) : PsAt (w.alloc o) pb A cap ts k := h.belowW ((Below.refl _ _).alloc (Nat.le_refl _) _)
theorem PsAt.to (h : PsAt w pb A cap ts k) (j : Nat) : PsAt (w.setCell ⟨pb, 1, none⟩ (.int .i64 (j : Int))) pb A cap ts j :=
 ⟨h.blk.set_ 1 _, h.rd.below ((Below.refl _ _).setCell (p := ⟨pb, 1, none⟩) (Nat.le_refl _) _)⟩
theorem PsAt.far {z i : Nat} {u : Value} (h : PsAt w pb A cap ts k) (hz : pb < z) : PsAt (w.setCell ⟨z, i, none⟩ u) pb A cap ts k :=
 ⟨h.blk.far (p := ⟨z, i, none⟩) (by show pb ≠ z; omega) _, h.rd.below ((Below.refl _ _).setCell (p := ⟨z, i, none⟩) (Nat.le_of_lt hz) _)⟩
end
def nvLeaf (kind : Int) (field text : List UInt8) (n : Int) : NV := ⟨kind, field, text, n, bd0, bd0, ⟨none, 0, 0⟩, ⟨none, 0, 0⟩⟩
theorem nd_leaf (w : World) (F : Nat → Prop) (kind : Int) (field text : List UInt8) (n : Int) : NdR w F (nvLeaf kind field text n) (ndLeaf kind field text n) :=
 .mk (RdF.nil _ _ _) (RdF.nil _ _ _) rfl fun i x t hx _ => by simp at hx
theorem NdR.belowW {w w' : World} {F : Nat → Prop} {x : NV} {t : Nd} (h : NdR w F x t) (hb : Below w.heap.size w w') : NdR w' F x t := h.keep fun p _ hlt => hb.cell hlt
theorem NdRs.belowW {w w' : World} {F : Nat → Prop} {nl : List NV} {ts : List Nd} (h : NdRs w F nl ts) (hb : Below w.heap.size w w') : NdRs w' F nl ts := h.keep fun p _ hlt => hb.cell hlt
theorem RdF.belowW {α : Type} {S : Shape α} {w w' : World} {F : Nat → Prop} {s : Sl} {l : List α} (h : RdF S w F s l) (hb : Below w.heap.size w w') : RdF S w' F s l := h.keep fun p _ hlt => hb.cell hlt
@[reducible] def set12 (w : World) (z : Nat) (x : NV) : World := (((((((((((w.setCell ⟨z, 0, none⟩ (.int .i64 x.kind)).setCell ⟨z, 1, none⟩ (.string (str x.field))).setCell ⟨z, 2, none⟩ (.string (str x.text))).setCell ⟨z, 3, none⟩ (.int .i64 x.n)).setCell ⟨z, 4, none⟩ (.bool x.lo.open_)).setCell ⟨z, 5, none⟩ (.bool x.lo.in_)).setCell ⟨z, 6, none⟩ (.string (str x.lo.text))).setCell ⟨z, 7, none⟩ (.bool x.hi.open_)).setCell ⟨z, 8, none⟩ (.bool x.hi.in_)).setCell ⟨z, 9, none⟩ (.string (str x.hi.text))).setCell ⟨z, 10, none⟩ (.slice x.occ.a x.occ.n x.occ.c)).setCell ⟨z, 11, none⟩ (.slice x.kids.a x.kids.n x.kids.c)
theorem set12_block {w : World} {z b : Nat} {x : NV} (h : b ≠ z) : (set12 w z x).heap[b]? = w.heap[b]? := by
 unfold set12
 repeat rw [Below.heap_setCell _ _ _ _ h]
theorem set12_size {w : World} {z : Nat} {x : NV} : (set12 w z x).heap.size = w.heap.size := by
 unfold set12
 simp only [set_size]
theorem PB.set12 {pb z : Nat} {w W : World} {x : NV} (h : PB pb w W) (hp : pb ≤ w.heap.size) (hz : w.heap.size ≤ z) : PB pb w (set12 W z x) := by
 unfold Go.Proofs.YthcldpminmhgkaaDoor.set12
 repeat (first | with_reducible exact h | with_reducible refine PB.new ?_ hp hz)
theorem PsAt.set12 {w : World} {pb cap k z : Nat} {A : Option Addr} {ts : List Lt} {x : NV} (h : PsAt w pb A cap ts k) (hz : pb < z) : PsAt (set12 w z x) pb A cap ts k := by
 unfold Go.Proofs.YthcldpminmhgkaaDoor.set12
 repeat (first | with_reducible exact h | with_reducible refine PsAt.far ?_ hz)
theorem NdR.set12 {w : World} {F : Nat → Prop} {z : Nat} {x y : NV} {t : Nd} (h : NdR w F x t) (hF : ∀ b, F b → b ≠ z) : NdR (set12 w z y) F x t :=
 h.keep fun p hp _ => World.cell?_of_block (set12_block (hF _ hp))
def PtRet (pb : Nat) (A : Option Addr) (cap : Nat) (ts : List Lt) (k : Nat) (v : List (Int × Nd)) (w : World) (e : Ending) (w' : World) : Prop :=
 PB pb w w' ∧ PsAt w' pb A cap ts k ∧ ∃ (x : NV) (t : Nd), e = .returned x.val ∧ v = [(0, t)] ∧ NdR w' (rng w.heap.size w'.heap.size) x t
theorem PtRet.leaf {pb : Nat} {A : Option Addr} {cap k k2 : Nat} {ts : List Lt} {v : List (Int × Nd)} {w W : World} {kd n : Int} {f tx : List UInt8} (hp : pb < w.heap.size) (hb : PB pb w W) (hs : PsAt W pb A cap ts k2) (hk : k2 = k) (hv : v = [(0, ndLeaf kd f tx n)]) : PtRet pb A cap ts k v w (.returned (nvLeaf kd f tx n).val) (set12 W w.heap.size (nvLeaf kd f tx n)) := by
 subst hk
 exact ⟨hb.set12 (Nat.le_of_lt hp) (Nat.le_refl _), hs.set12 hp, _, _, rfl, hv, nd_leaf _ _ _ _ _ _⟩
theorem Blk.pb {pb g : Nat} {w w' : World} {t : TypeId} {cs : Array Value} (h : Blk w g t cs) (hb : PB pb w w') (hne : g ≠ pb) : Blk w' g t cs := by
 have hlt := h.lt
 unfold Blk at h ⊢
 rw [hb.keep g hlt hne]; exact h
theorem PtRet.span {pb : Nat} {A : Option Addr} {cap k k2 : Nat} {ts : List Lt} {v : List (Int × Nd)} {w W : World} {f : List UInt8} {lo hi : Bd} (hp : pb < w.heap.size) (hb : PB pb w W) (hs : PsAt W pb A cap ts k2) (hk : k2 = k) (hv : v = [(0, .mk 6 f [] 0 lo hi [] [])]) : PtRet pb A cap ts k v w (.returned (NV.val ⟨6, f, [], 0, lo, hi, ⟨none, 0, 0⟩, ⟨none, 0, 0⟩⟩)) (set12 W w.heap.size ⟨6, f, [], 0, lo, hi, ⟨none, 0, 0⟩, ⟨none, 0, 0⟩⟩) := by
 subst hk
 exact ⟨hb.set12 (Nat.le_of_lt hp) (Nat.le_refl _), hs.set12 hp, _, _, rfl, hv, .mk (RdF.nil _ _ _) (RdF.nil _ _ _) rfl fun i x t hx _ => by simp at hx⟩
end Go.Proofs.YthcldpminmhgkaaDoor
end
section
namespace Go.Proofs.YthcldpminmhgkaaDoor
def cntS : List Lt → Nat
 | [] => 0
 | t :: r => if t.kind = 18 ∨ t.kind = 19 then cntS r + 1 else 0
def sfxS : List Lt → Nat
 | [] => 0
 | t :: r => if t.kind = 21 ∨ t.kind = 20 then cntS r else cntS (t :: r)
structure NS where
 most : Nat
 nots : Nat
 depth : Nat
 weights : List Nat
def ns0 : NS := ⟨0, 0, 0, []⟩
def colonAt (l : List Lt) (i : Nat) : Bool := match l[i]? with
 | some t => decide (t.kind = 14)
 | none => false
def nestStep (l : List Lt) (ends : Nat → Nat) (i : Nat) (t : Lt) (s : NS) : Option (Nat × NS) :=
 if t.kind = 6 then some (i + 1, ⟨s.most, s.nots + 1, s.depth, s.weights⟩)
 else if t.kind = 8 then some (i + 1, ⟨s.most, 0, s.depth + (1 + s.nots + sfxS (l.drop (ends i + 1))), s.weights ++ [1 + s.nots + sfxS (l.drop (ends i + 1))]⟩)
 else if t.kind = 9 then match s.weights.getLast? with
  | none => none
  | some w => if w ≤ s.depth then some (i + 1, ⟨s.most, s.nots, s.depth - w, s.weights.dropLast⟩) else none
 else if t.kind = 10 ∨ t.kind = 12 then some (i + 5, ⟨max s.most (s.depth + s.nots + sfxS (l.drop (i + 5))), 0, s.depth, s.weights⟩)
 else if t.kind = 1 ∨ t.kind = 2 ∨ t.kind = 3 then
  if colonAt l (i + 1) = true then some (i + 2, s)
  else some (i + 1, ⟨max s.most (s.depth + s.nots + sfxS (l.drop (i + 1))), 0, s.depth, s.weights⟩)
 else some (i + 1, s)
inductive NestRun (l : List Lt) (ends : Nat → Nat) : Nat → NS → Nat → Prop
 | stop {i : Nat} {s : NS} : l.length ≤ i → NestRun l ends i s s.most
 | step {i i' : Nat} {t : Lt} {s s' : NS} {M : Nat} : l[i]? = some t → nestStep l ends i t s = some (i', s') → NestRun l ends i' s' M → NestRun l ends i s M
def upd (f : Nat → Nat) (i k : Nat) : Nat → Nat := fun j => if j = i then k else f j
def closeL : Nat → List Nat → (Nat → Nat) → List Lt → Option (List Nat × (Nat → Nat))
 | _, st, out, [] => some (st, out)
 | k, st, out, t :: r =>
  if t.kind = 8 then closeL (k + 1) (st ++ [k]) out r
  else if t.kind = 9 then match st.getLast? with
   | none => none
   | some i => closeL (k + 1) st.dropLast (upd out i k) r
  else closeL (k + 1) st out r
theorem closeL_append (k : Nat) (st : List Nat) (out : Nat → Nat) (a b : List Lt) : closeL k st out (a ++ b) = (closeL k st out a).bind fun x => closeL (k + a.length) x.1 x.2 b := by
 induction a generalizing k st out with
 | nil => rfl
 | cons t a ih =>
  rw [List.cons_append, closeL, closeL]
  have e : k + (t :: a).length = k + 1 + a.length := by rw [List.length_cons]; omega
  rw [e]
  split
  ·exact ih _ _ _
  split
  ·cases st.getLast? with
   | none => rfl
   | some i => exact ih _ _ _
  ·exact ih _ _ _
theorem closeL_no {k : Nat} {st : List Nat} {out : Nat → Nat} {a : List Lt} (h : ∀ t ∈ a, t.kind ≠ 8 ∧ t.kind ≠ 9) : closeL k st out a = some (st, out) := by
 induction a generalizing k with
 | nil => rfl
 | cons t a ih =>
  have := h t List.mem_cons_self
  rw [closeL, if_neg this.1, if_neg this.2]
  exact ih fun x hx => h x (List.mem_cons_of_mem _ hx)
def loPt : Pt → Bool
 | .leaf => true | .group => true | .body => true | .atom => true | .piece => true | _ => false
def hdNo (post : List Lt) (ks : List Int) : Prop := ∀ t r, post = t :: r → t.kind ∉ ks
def Pc (p : Pt) (post : List Lt) : Prop := hdNo post (if loPt p = true then [14, 20, 21] else [14, 20, 21, 18, 19])
def noted : Pt → Bool
 | .maxes => true | .ands => true | .ors => true | .clause => true | .list => true | _ => false
def Sc (p : Pt) (s : NS) : Prop := noted p = true → s.nots = 0
def Rsn (n : Nat) (post : List Lt) (s : NS) : NS := ⟨max s.most (s.depth + s.nots + n + cntS post), 0, s.depth, s.weights⟩
def RunOk (p : Pt) (A : List Lt) (n k : Nat) (out : Nat → Nat) : Prop :=
 ∀ ends : Nat → Nat, (∀ i, k ≤ i → i < k + A.length → ends i = out i) → ∀ l pre post : List Lt, l = pre ++ (A ++ post) → pre.length = k → Pc p post → ∀ (s : NS) (M : Nat), Sc p s → NestRun l ends (k + A.length) (Rsn n post s) M → NestRun l ends k s M
def NOk (p : Pt) (A : List Lt) (n : Nat) : Prop :=
 ∀ (k : Nat) (st : List Nat) (out : Nat → Nat), ∃ out', closeL k st out A = some (st, out') ∧ (∀ i, i < k ∨ k + A.length ≤ i → out' i = out i) ∧ RunOk p A n k out'
theorem at_pre {l pre rest : List Lt} {k j : Nat} (hl : l = pre ++ rest) (hk : pre.length = k) : l[k + j]? = rest[j]? := by
 subst hl hk
 rw [List.getElem?_append_right (by omega), Nat.add_sub_cancel_left]
theorem drop_pre {l pre rest : List Lt} {k j : Nat} (hl : l = pre ++ rest) (hk : pre.length = k) : l.drop (k + j) = rest.drop j := by
 subst hl hk
 rw [List.drop_append, List.drop_of_length_le (by omega), Nat.add_sub_cancel_left, List.nil_append]
theorem sfx_cnt {post : List Lt} (h : hdNo post [14, 20, 21]) : sfxS post = cntS post := by
 cases post with
 | nil => rfl
 | cons t r =>
  have := h t r rfl
  simp only [List.mem_cons, List.not_mem_nil, or_false, not_or] at this
  rw [sfxS, if_neg (by omega)]
theorem cnt_hi {post : List Lt} (h : hdNo post [14, 20, 21, 18, 19]) : cntS post = 0 := by
 cases post with
 | nil => rfl
 | cons t r =>
  have := h t r rfl
  simp only [List.mem_cons, List.not_mem_nil, or_false, not_or] at this
  rw [cntS, if_neg (by omega)]
theorem hdNo.less {post : List Lt} {a b : List Int} (h : hdNo post a) (hb : ∀ x ∈ b, x ∈ a) : hdNo post b := fun t r e hm => h t r e (hb _ hm)
theorem hd_cons {t : Lt} {r : List Lt} {ks : List Int} (h : t.kind ∉ ks) : hdNo (t :: r) ks := fun t' r' e => by cases e; exact h
theorem colon_no {l pre post : List Lt} {i : Nat} (hl : l = pre ++ post) (hi : pre.length = i) (h : hdNo post [14]) : colonAt l i = false := by
 unfold colonAt
 have := at_pre (j := 0) hl hi
 rw [Nat.add_zero] at this
 rw [this]
 cases post with
 | nil => rfl
 | cons t r =>
  have := h t r rfl
  simpa using this
theorem nok_tok {t : Lt} {u : List Lt} (ht : t.kind = 1 ∨ t.kind = 2 ∨ t.kind = 3) (hu : u = [] ∨ ∃ x, u = [x] ∧ x.kind = 20) : NOk .leaf (t :: u) 0 := by
 intro k st out
 refine ⟨out, closeL_no ?_, fun _ _ => rfl, ?_⟩
 ·intro x hx
  rcases List.mem_cons.1 hx with rfl | hx
  ·omega
  ·rcases hu with rfl | ⟨y, rfl, hy⟩
   ·cases hx
   ·rw [List.mem_singleton.1 hx]; omega
 ·intro ends _ l pre post hl hk hp s M _ hM
  have h0 : l[k]? = some t := by
   have := at_pre (j := 0) hl hk
   simpa using this
  refine .step (i' := k + 1) (s' := Rsn 0 post s) h0 ?_ ?_
  ·unfold nestStep
   rw [if_neg (by omega), if_neg (by omega), if_neg (by omega), if_neg (by omega), if_pos ht, if_neg ?_]
   ·have e : sfxS (l.drop (k + 1)) = cntS post := by
     rw [drop_pre (j := 1) hl hk, List.cons_append, List.drop_one, List.tail_cons]
     rcases hu with rfl | ⟨x, rfl, hx⟩
     ·exact sfx_cnt hp
     ·rw [List.cons_append, List.nil_append, sfxS, if_pos (.inr hx)]
    rw [e]; rfl
   ·have hl2 : l = (pre ++ [t]) ++ (u ++ post) := by rw [hl]; simp
    rw [colon_no hl2 (by rw [List.length_append, hk]; rfl) ?_]
    ·decide
    ·rcases hu with rfl | ⟨x, rfl, hx⟩
     ·exact hdNo.less hp (by simp [loPt])
     ·exact hd_cons (by simp [hx])
  ·rcases hu with rfl | ⟨x, rfl, hx⟩
   ·exact hM
   ·refine .step (i' := k + 2) (s' := Rsn 0 post s) (t := x) ?_ ?_ hM
    ·have := at_pre (j := 1) hl hk
     simpa using this
    ·unfold nestStep
     rw [if_neg (by omega), if_neg (by omega), if_neg (by omega), if_neg (by omega), if_neg (by omega)]
theorem step_plain {l : List Lt} {ends : Nat → Nat} {i : Nat} {t : Lt} {s : NS} (h : t.kind = 0 ∨ t.kind = 4 ∨ t.kind = 5 ∨ t.kind = 15 ∨ t.kind = 16 ∨ t.kind = 17 ∨ t.kind = 18 ∨ t.kind = 19 ∨ t.kind = 20 ∨ t.kind = 21) : nestStep l ends i t s = some (i + 1, s) := by
 unfold nestStep
 rw [if_neg (by omega), if_neg (by omega), if_neg (by omega), if_neg (by omega), if_neg (by omega)]
theorem nok_span {a b c d e : Lt} (ha : a.kind = 10 ∨ a.kind = 12) (hb : sideT b = true) (hc : c.kind = 7) (hd : sideT d = true) (he : e.kind = 11 ∨ e.kind = 13) : NOk .leaf [a, b, c, d, e] 0 := by
 have hb8 : b.kind ≠ 8 ∧ b.kind ≠ 9 := by simp [sideT, starT] at hb; omega
 have hd8 : d.kind ≠ 8 ∧ d.kind ≠ 9 := by simp [sideT, starT] at hd; omega
 intro k st out
 refine ⟨out, closeL_no ?_, fun _ _ => rfl, ?_⟩
 ·intro x hx
  simp only [List.mem_cons, List.not_mem_nil, or_false] at hx
  rcases hx with rfl | rfl | rfl | rfl | rfl
  ·omega
  ·exact hb8
  ·omega
  ·exact hd8
  ·omega
 ·intro ends _ l pre post hl hk hp s M _ hM
  have h0 : l[k]? = some a := by
   have := at_pre (j := 0) hl hk
   simpa using this
  refine .step (i' := k + 5) (s' := Rsn 0 post s) h0 ?_ hM
  unfold nestStep
  rw [if_neg (by omega), if_neg (by omega), if_neg (by omega), if_pos ha]
  have e2 : sfxS (l.drop (k + 5)) = cntS post := by
   rw [drop_pre (j := 5) hl hk]
   exact sfx_cnt hp
  rw [e2]; rfl
theorem nok_group {o c : Lt} {A x : List Lt} {n : Nat} (ho : o.kind = 8) (hc : c.kind = 9) (hx : x = [] ∨ ∃ y, x = [y] ∧ y.kind = 21) (ih : NOk .list A n) : NOk .group (o :: (A ++ (c :: x))) (n + 1) := by
 intro k st out
 obtain ⟨out1, h1, h2, h3⟩ := ih (k + 1) (st ++ [k]) out
 have hlen : (o :: (A ++ (c :: x))).length = A.length + 2 + x.length := by simp; omega
 have hx8 : ∀ t ∈ x, t.kind ≠ 8 ∧ t.kind ≠ 9 := by
  intro t ht
  rcases hx with rfl | ⟨y, rfl, hy⟩
  ·cases ht
  ·rw [List.mem_singleton.1 ht]; omega
 refine ⟨upd out1 k (k + 1 + A.length), ?_, ?_, ?_⟩
 ·rw [closeL, if_pos ho, closeL_append, h1]
  show closeL (k + 1 + A.length) (st ++ [k]) out1 (c :: x) = _
  rw [closeL, if_neg (by omega), if_pos hc, List.getLast?_concat, List.dropLast_concat]
  exact closeL_no hx8
 ·intro i hi
  rw [hlen] at hi
  unfold upd
  rw [if_neg (by omega)]
  exact h2 i (by omega)
 ·intro ends hE l pre post hl hk hp s M _ hM
  rw [hlen] at hE hM
  have h0 : l[k]? = some o := by
   have := at_pre (j := 0) hl hk
   simpa using this
  have hEk : ends k = k + 1 + A.length := by
   rw [hE k (Nat.le_refl _) (by omega)]
   unfold upd; rw [if_pos rfl]
  have hsf : sfxS (l.drop (ends k + 1)) = cntS post := by
   rw [hEk, show k + 1 + A.length + 1 = k + (A.length + 2) from by omega, drop_pre hl hk]
   have e : (o :: (A ++ (c :: x)) ++ post).drop (A.length + 2) = x ++ post := by
    rw [show o :: (A ++ (c :: x)) ++ post = (o :: A ++ [c]) ++ (x ++ post) from by simp]
    rw [List.drop_append, List.drop_of_length_le (by simp), List.nil_append]
    rw [show A.length + 2 - (o :: A ++ [c]).length = 0 from by simp, List.drop_zero]
   rw [e]
   rcases hx with rfl | ⟨y, rfl, hy⟩
   ·exact sfx_cnt hp
   ·rw [List.cons_append, List.nil_append, sfxS, if_pos (.inl hy)]
  obtain ⟨w, hw⟩ : ∃ w, w = 1 + s.nots + cntS post := ⟨_, rfl⟩
  refine .step (i' := k + 1) (s' := ⟨s.most, 0, s.depth + w, s.weights ++ [w]⟩) h0 ?_ ?_
  ·unfold nestStep
   rw [if_neg (by omega), if_pos ho, hsf, hw]
  refine h3 ends ?_ l (pre ++ [o]) (c :: (x ++ post)) ?_ ?_ ?_ _ _ (fun _ => rfl) ?_
  ·intro i hi hi2
   rw [hE i (by omega) (by omega)]
   unfold upd; rw [if_neg (by omega)]
  ·rw [hl]; simp
  ·rw [List.length_append, hk]; rfl
  ·exact hd_cons (by rw [hc]; decide)
  ·refine .step (i' := k + 1 + A.length + 1) (s' := Rsn (n + 1) post s) (t := c) ?_ ?_ ?_
   ·have := at_pre (j := A.length + 1) hl hk
    rw [show k + 1 + A.length = k + (A.length + 1) from by omega, this]
    simp
   ·unfold nestStep
    rw [if_neg (by omega), if_neg (by omega), if_pos hc]
    show (match (s.weights ++ [w]).getLast? with | none => none | some w' => if w' ≤ s.depth + w then some (k + 1 + A.length + 1, NS.mk _ 0 (s.depth + w - w') (s.weights ++ [w]).dropLast) else none) = _
    rw [List.getLast?_concat, List.dropLast_concat]
    show (if w ≤ s.depth + w then _ else none) = _
    rw [if_pos (by omega), Nat.add_sub_cancel]
    have hc0 : cntS (c :: (x ++ post)) = 0 := by rw [cntS, if_neg (by omega)]
    unfold Rsn
    rw [hc0]
    simp only [Nat.add_zero]
    have e : max s.most (s.depth + w + n) = max s.most (s.depth + s.nots + (n + 1) + cntS post) := by rw [hw]; congr 1; omega
    rw [e]
   ·rcases hx with rfl | ⟨y, rfl, hy⟩
    ·rw [show k + 1 + A.length + 1 = k + (A.length + 2 + 0) from by omega]; exact hM
    ·refine .step (i' := k + 1 + A.length + 1 + 1) (s' := Rsn (n + 1) post s) (t := y) ?_ (step_plain (by omega)) ?_
     ·have := at_pre (j := A.length + 2) hl hk
      rw [show k + 1 + A.length + 1 = k + (A.length + 2) from by omega, this]
      simp
     ·rw [show k + 1 + A.length + 1 + 1 = k + (A.length + 2 + 1) from by omega]; exact hM
theorem nok_two {p q r : Pt} {A x B : List Lt} {n m : Nat} (hpn : noted p = true ∨ loPt p = false) (hpl : loPt p = false) (hql : loPt q = false) (hrl : loPt r = false) (hpr : noted r = true) (hx : x = [] ∨ ∃ y, x = [y] ∧ (y.kind = 4 ∨ y.kind = 5 ∨ y.kind = 17)) (hB : ∃ t u, x ++ B = t :: u ∧ t.kind ∉ ([14, 20, 21, 18, 19] : List Int))
  (h1 : NOk p A n) (h2 : NOk q B m) : NOk r (A ++ (x ++ B)) (max n m) := by
 intro k st out
 obtain ⟨o1, a1, a2, a3⟩ := h1 k st out
 obtain ⟨o2, b1, b2, b3⟩ := h2 (k + A.length + x.length) st o1
 have hx8 : ∀ t ∈ x, t.kind ≠ 8 ∧ t.kind ≠ 9 := by
  intro t ht
  rcases hx with rfl | ⟨y, rfl, hy⟩
  ·cases ht
  ·rw [List.mem_singleton.1 ht]; omega
 have hlen : (A ++ (x ++ B)).length = A.length + (x.length + B.length) := by simp
 refine ⟨o2, ?_, ?_, ?_⟩
 ·rw [closeL_append, a1]
  show closeL (k + A.length) st o1 (x ++ B) = _
  rw [closeL_append, closeL_no hx8]
  exact b1
 ·intro i hi
  rw [hlen] at hi
  rw [b2 i (by omega), a2 i (by omega)]
 ·intro ends hE l pre post hl hk hp s M hs hM
  rw [hlen] at hE hM
  have hs0 : s.nots = 0 := hs hpr
  obtain ⟨t, u, htu, htk⟩ := hB
  have hc0 : cntS ((x ++ B) ++ post) = 0 := by
   rw [htu, List.cons_append]
   exact cnt_hi (hd_cons htk)
  have hpost : Pc q post := by
   unfold Pc at hp ⊢
   rw [hrl] at hp; rw [hql]; exact hp
  have hcp : cntS post = 0 := by
   unfold Pc at hp
   rw [hrl] at hp
   exact cnt_hi hp
  refine a3 ends ?_ l pre ((x ++ B) ++ post) (by rw [hl]; simp) hk ?_ s M (fun _ => hs0) ?_
  ·intro i hi hi2
   rw [hE i hi (by omega), b2 i (by omega)]
  ·unfold Pc
   rw [hpl, htu, List.cons_append]
   exact hd_cons htk
  have hfin : NestRun l ends (k + A.length + x.length) (Rsn n ((x ++ B) ++ post) s) M := by
   refine b3 ends ?_ l (pre ++ (A ++ x)) post (by rw [hl]; simp) (by simp [hk]; omega) hpost _ _ (fun _ => rfl) ?_
   ·intro i hi hi2
    exact hE i (by omega) (by omega)
   ·have e : Rsn m post (Rsn n ((x ++ B) ++ post) s) = Rsn (max n m) post s := by
     unfold Rsn
     rw [hc0, hcp, hs0]
     simp only [Nat.add_zero]
     congr 1
     omega
    rw [e, show k + A.length + x.length + B.length = k + (A.length + (x.length + B.length)) from by omega]
    exact hM
  rcases hx with rfl | ⟨y, rfl, hy⟩
  ·exact hfin
  ·refine .step (i' := k + A.length + 1) (t := y) ?_ (step_plain (by omega)) hfin
   have := at_pre (j := A.length) hl hk
   rw [this]; simp
theorem nok_more {p q : Pt} {A : List Lt} {n : Nat} (h : NOk p A n) (hp : ∀ post, Pc q post → Pc p post) (hs : ∀ s, Sc q s → Sc p s) : NOk q A n := by
 intro k st out
 obtain ⟨o1, a1, a2, a3⟩ := h k st out
 exact ⟨o1, a1, a2, fun ends hE l pre post hl hk hpc s M hsc hM => a3 ends hE l pre post hl hk (hp _ hpc) s M (hs _ hsc) hM⟩
theorem pc_lo {p q : Pt} (h : loPt p = loPt q) (post : List Lt) (hp : Pc q post) : Pc p post := by unfold Pc at hp ⊢; rw [h]; exact hp
theorem pc_hi {q : Pt} (h : loPt q = false) (p : Pt) (post : List Lt) (hp : Pc q post) : Pc p post := by
 unfold Pc at hp ⊢
 rw [h] at hp
 split
 ·exact hp.less (by simp)
 ·exact hp
theorem sc_any {p : Pt} (h : noted p = false) (s : NS) : Sc p s := fun e => by rw [h] at e; cases e
theorem nok_ahead {p q : Pt} {t : Lt} {A : List Lt} {n d : Nat} (h : NOk p A n) (h89 : t.kind ≠ 8 ∧ t.kind ≠ 9) (hp : ∀ post, Pc q post → Pc p post) (hsp : noted p = false)
  (hst : ∀ (l : List Lt) (ends : Nat → Nat) (i : Nat) (s : NS), Sc q s → ∃ s', nestStep l ends i t s = some (i + 1, s') ∧ ∀ post, Rsn n post s' = Rsn (n + d) post s) : NOk q (t :: A) (n + d) := by
 intro k st out
 obtain ⟨o1, a1, a2, a3⟩ := h (k + 1) st out
 refine ⟨o1, ?_, ?_, ?_⟩
 ·rw [closeL, if_neg h89.1, if_neg h89.2]; exact a1
 ·intro i hi
  rw [List.length_cons] at hi
  exact a2 i (by omega)
 ·intro ends hE l pre post hl hk hpc s M hs hM
  rw [List.length_cons] at hE hM
  obtain ⟨s', e1, e2⟩ := hst l ends k s hs
  have h0 : l[k]? = some t := by
   have := at_pre (j := 0) hl hk
   simpa using this
  refine .step h0 e1 (a3 ends (fun i hi hi2 => hE i (by omega) (by omega)) l (pre ++ [t]) post (by rw [hl]; simp) (by simp [hk]) (hp _ hpc) s' M (sc_any hsp s') ?_)
  rw [e2, show k + 1 + A.length = k + (A.length + 1) from by omega]
  exact hM
theorem D.nok {p : Pt} {A : List Lt} {n : Nat} {v : Vl} (h : D p A n v) : NOk p A n := by
 induction h with
 | word ht => exact nok_tok (.inl ht) (.inl rfl)
 | edits ht hu _ => exact nok_tok (.inl ht) (.inr ⟨_, rfl, hu⟩)
 | pat ht => exact nok_tok (.inr (.inl ht)) (.inl rfl)
 | quo ht => exact nok_tok (.inr (.inr ht)) (.inl rfl)
 | slop ht hu _ => exact nok_tok (.inr (.inr ht)) (.inr ⟨_, rfl, hu⟩)
 | span ha hb hc hd he => exact nok_span ha hb hc hd he
 | group ho hA hc ih => exact nok_group ho hc (.inl rfl) ih
 | least ho hA hc hl ih => exact nok_group ho hc (.inr ⟨_, rfl, hl⟩) ih
 | leafB _ ih => exact nok_more ih (pc_lo rfl) (fun s _ => sc_any rfl s)
 | groupB _ ih => exact nok_more ih (pc_lo rfl) (fun s _ => sc_any rfl s)
 | bodyA _ ih => exact nok_more ih (pc_lo rfl) (fun s _ => sc_any rfl s)
 | @field w c A n v hw hc hA ih =>
  intro k st out
  obtain ⟨o1, a1, a2, a3⟩ := ih (k + 2) st out
  refine ⟨o1, ?_, ?_, ?_⟩
  ·rw [closeL, if_neg (by omega), if_neg (by omega), closeL, if_neg (by omega), if_neg (by omega)]; exact a1
  ·intro i hi
   simp only [List.length_cons] at hi
   exact a2 i (by omega)
  ·intro ends hE l pre post hl hk hpc s M hs hM
   simp only [List.length_cons] at hE hM
   have h0 : l[k]? = some w := by
    have := at_pre (j := 0) hl hk
    simpa using this
   have h1 : l[k + 1]? = some c := by
    have := at_pre (j := 1) hl hk
    simpa using this
   refine .step (i' := k + 2) (s' := s) h0 ?_ (a3 ends (fun i hi hi2 => hE i (by omega) (by omega)) l (pre ++ [w, c]) post (by rw [hl]; simp) (by simp [hk]) (pc_lo rfl _ hpc) s M (sc_any rfl s) ?_)
   ·unfold nestStep
    rw [if_neg (by omega), if_neg (by omega), if_neg (by omega), if_neg (by omega), if_pos (.inl hw), if_pos (by unfold colonAt; rw [h1]; simp [hc])]
   ·rw [show k + 2 + A.length = k + (A.length + 1 + 1) from by omega]; exact hM
 | @all a c t ha hc ht =>
  have ha2 : a.kind = 2 := by simp [starT] at ha; exact ha.1
  have ht2 : t.kind = 2 := by simp [starT] at ht; exact ht.1
  have ih : NOk .leaf [t] 0 := nok_tok (.inr (.inl ht2)) (.inl rfl)
  intro k st out
  obtain ⟨o1, a1, a2, a3⟩ := ih (k + 2) st out
  refine ⟨o1, ?_, ?_, ?_⟩
  ·rw [closeL, if_neg (by omega), if_neg (by omega), closeL, if_neg (by omega), if_neg (by omega)]; exact a1
  ·intro i hi
   simp only [List.length_cons, List.length_nil] at hi
   exact a2 i (by simp; omega)
  ·intro ends hE l pre post hl hk hpc s M hs hM
   simp only [List.length_cons, List.length_nil] at hE hM
   have h0 : l[k]? = some a := by
    have := at_pre (j := 0) hl hk
    simpa using this
   have h1 : l[k + 1]? = some c := by
    have := at_pre (j := 1) hl hk
    simpa using this
   refine .step (i' := k + 2) (s' := s) h0 ?_ (a3 ends (fun i hi hi2 => hE i (by omega) (by simp at hi2; omega)) l (pre ++ [a, c]) post (by rw [hl]; simp) (by simp [hk]) (pc_lo rfl _ hpc) s M (sc_any rfl s) ?_)
   ·unfold nestStep
    rw [if_neg (by omega), if_neg (by omega), if_neg (by omega), if_neg (by omega), if_pos (.inr (.inl ha2)), if_pos (by unfold colonAt; rw [h1]; simp [hc])]
   ·exact hM
 | atomP _ ih => exact nok_more ih (pc_lo rfl) (fun s _ => sc_any rfl s)
 | @sfx b A n v hA hb ih =>
  intro k st out
  obtain ⟨o1, a1, a2, a3⟩ := ih k st out
  refine ⟨o1, ?_, ?_, ?_⟩
  ·rw [closeL_append, a1]
   exact closeL_no (fun t ht => by rw [List.mem_singleton.1 ht]; omega)
  ·intro i hi
   rw [List.length_append, List.length_singleton] at hi
   exact a2 i (by omega)
  ·intro ends hE l pre post hl hk hpc s M hs hM
   rw [List.length_append, List.length_singleton] at hE hM
   refine a3 ends (fun i hi hi2 => hE i hi (by omega)) l pre (b :: post) (by rw [hl]; simp) hk (hd_cons (by simp [loPt]; omega)) s M (sc_any rfl s) ?_
   have e : Rsn n (b :: post) s = Rsn (n + 1) post s := by
    unfold Rsn
    rw [cntS, if_pos hb]
    congr 1
    omega
   rw [e]
   refine .step (i' := k + A.length + 1) (t := b) ?_ (step_plain (by omega)) hM
   have := at_pre (j := A.length) hl hk
   rw [this]; simp
 | pieceU _ ih => exact nok_more ih (pc_hi rfl _) (fun s _ => sc_any rfl s)
 | @not t A n v ht hA ih =>
  refine nok_ahead ih (by omega) (pc_lo rfl) rfl fun l ends i s _ => ⟨⟨s.most, s.nots + 1, s.depth, s.weights⟩, ?_, fun post => ?_⟩
  ·unfold nestStep; rw [if_pos ht]
  ·unfold Rsn
   congr 1
   show max s.most (s.depth + (s.nots + 1) + n + cntS post) = _
   congr 1; omega
 | maxU _ ih => exact nok_more ih (pc_hi rfl _) (fun s _ => sc_any rfl s)
 | bar hA hb hB ih1 ih2 => exact nok_two (q := .unary) (x := [_]) (.inl rfl) rfl rfl rfl rfl (.inr ⟨_, rfl, by omega⟩) ⟨_, _, rfl, by rw [hb]; decide⟩ ih1 ih2
 | andM _ ih => exact nok_more ih (pc_hi rfl _) (fun s h => h)
 | and hA hb hB ih1 ih2 => exact nok_two (q := .maxes) (x := [_]) (.inl rfl) rfl rfl rfl rfl (.inr ⟨_, rfl, by omega⟩) ⟨_, _, rfl, by rw [hb]; decide⟩ ih1 ih2
 | orA _ ih => exact nok_more ih (pc_hi rfl _) (fun s h => h)
 | or hA hb hB ih1 ih2 => exact nok_two (q := .ands) (x := [_]) (.inl rfl) rfl rfl rfl rfl (.inr ⟨_, rfl, by omega⟩) ⟨_, _, rfl, by rw [hb]; decide⟩ ih1 ih2
 | clauseO _ ih => exact nok_more ih (pc_hi rfl _) (fun s h => h)
 | @sign s A n v hs hA ih =>
  exact nok_ahead (d := 0) ih (by omega) (pc_lo rfl) rfl fun l ends i s0 _ => ⟨s0, step_plain (by omega), fun post => rfl⟩
 | one _ ih => exact nok_more ih (pc_hi rfl _) (fun s h => h)
 | @more A B n m v u hA hB ih1 ih2 =>
  obtain ⟨⟨t, r, rfl, ht⟩, _⟩ := hB.okk
  exact nok_two (q := .clause) (x := []) (.inl rfl) rfl rfl rfl rfl (.inl rfl) ⟨t, r, rfl, by unfold begT at ht; simp; omega⟩ ih1 ih2
theorem D.nest {A : List Lt} {e : Lt} {n : Nat} {v : Vl} (h : D .list A n v) (he : e.kind = 0) (out : Nat → Nat) : ∃ out', closeL 0 [] out (A ++ [e]) = some ([], out') ∧ NestRun (A ++ [e]) out' 0 ns0 n := by
 obtain ⟨o1, a1, a2, a3⟩ := h.nok 0 [] out
 refine ⟨o1, ?_, ?_⟩
 ·rw [closeL_append, a1]
  exact closeL_no (fun t ht => by rw [List.mem_singleton.1 ht]; omega)
 ·refine a3 o1 (fun _ _ _ => rfl) (A ++ [e]) [] [e] (by simp) rfl (hd_cons (by rw [he]; decide)) ns0 n (fun _ => rfl) ?_
  have e1 : Rsn n [e] ns0 = ⟨n, 0, 0, []⟩ := by
   unfold Rsn ns0
   rw [cntS, if_neg (by omega)]
   simp
  rw [e1, Nat.zero_add]
  refine .step (i' := A.length + 1) (s' := ⟨n, 0, 0, []⟩) (t := e) (by simp) (step_plain (.inl he)) ?_
  exact .stop (by simp)
end Go.Proofs.YthcldpminmhgkaaDoor
end
section
namespace Go.Proofs.YthcldpminmhgkaaDoor
open Go.RowKit
def Hd (post : List Lt) (ks : List Int) : Prop := ∃ p r, post = p :: r ∧ p.kind ∉ ks
theorem Hd.less {post : List Lt} {a b : List Int} (h : Hd post a) (hb : ∀ x ∈ b, x ∈ a) : Hd post b := by
 obtain ⟨p, r, e, hp⟩ := h
 exact ⟨p, r, e, fun hm => hp (hb _ hm)⟩
section
variable (pb : Nat) (PA : Option Addr) (cap : Nat) (ts : List Lt) (M : Nat)
end
end Go.Proofs.YthcldpminmhgkaaDoor
end
