/- Merged for a claim by shake.py: Ua Ub Uc Ud -/
import Derived.Test.YthcldpminmhgkaaDoorKxA
import Derived.Test.YthcldpminmhgkaaDoorKx12
set_option maxRecDepth 100000
set_option maxHeartbeats 4000000
set_option linter.unusedSimpArgs false
set_option linter.unusedVariables false
section
namespace Go.Proofs.YthcldpminmhgkaaDoor
open Go.RowKit
structure Sl where
 a : Option Addr
 n : Nat
 c : Nat
structure NV where
 kind : Int
 field : List UInt8
 text : List UInt8
 n : Int
 lo : Bd
 hi : Bd
 occ : Sl
 kids : Sl
def NV.cells (x : NV) : List Value := [.int .i64 x.kind, .string (str x.field), .string (str x.text), .int .i64 x.n, .bool x.lo.open_, .bool x.lo.in_, .string (str x.lo.text), .bool x.hi.open_, .bool x.hi.in_, .string (str x.hi.text), .slice x.occ.a x.occ.n x.occ.c, .slice x.kids.a x.kids.n x.kids.c]
def NV.val (x : NV) : Value := .agg #[.int .i64 x.kind, .string (str x.field), .string (str x.text), .int .i64 x.n, .bool x.lo.open_, .bool x.lo.in_, .string (str x.lo.text), .bool x.hi.open_, .bool x.hi.in_, .string (str x.hi.text), .slice x.occ.a x.occ.n x.occ.c, .slice x.kids.a x.kids.n x.kids.c]
def ndS : Shape NV := { tS := 25, tE := 27, size := 12, bytes := 144, enc := NV.cells, zero := .agg zA }
theorem ndOk : ndS.Ok where
 under := Tryd.underlying25
 info := by kernel_rfl
 zs := rfl
 pos := by decide
 len := fun _ => rfl
 one := fun x u hu => by
  simp only [ndS, NV.cells, List.mem_cons, List.not_mem_nil, or_false] at hu
  rcases hu with rfl | rfl | rfl | rfl | rfl | rfl | rfl | rfl | rfl | rfl | rfl | rfl <;> rfl
 small := by decide
def RdF {α : Type} (S : Shape α) (w : World) (F : Nat → Prop) (s : Sl) (l : List α) : Prop :=
 s.n = l.length ∧ s.n ≤ s.c ∧ s.c ≤ maxLen ∧ (0 < l.length → ∃ a, s.a = some a ∧ F a.block ∧ ∀ j u, (S.cells l)[j]? = some u → w.cell? (a.add j) = some u) ∧ (s.a = none → s.c = 0)
section
variable {α : Type} {S : Shape α} {w w' : World} {F G : Nat → Prop} {s : Sl} {l : List α}
theorem RdF.rd {B : Nat} (h : RdF S w F s l) (hF : ∀ b, F b → b < B) : RdL S w B (.slice s.a s.n s.c) l := by
 obtain ⟨h1, h2, h3, h4, h5⟩ := h
 rw [h1] at h2 ⊢
 refine ⟨s.a, s.c, rfl, h2, h3, fun hn => ?_, h5⟩
 obtain ⟨a, e, hb, hc⟩ := h4 hn
 exact ⟨a, e, hF _ hb, hc⟩
theorem RdF.mono (h : RdF S w F s l) (hFG : ∀ b, F b → G b) : RdF S w G s l := by
 obtain ⟨h1, h2, h3, h4, h5⟩ := h
 refine ⟨h1, h2, h3, fun hn => ?_, h5⟩
 obtain ⟨a, e, hb, hc⟩ := h4 hn
 exact ⟨a, e, hFG _ hb, hc⟩
theorem RdF.keep (h : RdF S w F s l) (hk : ∀ p : Addr, F p.block → p.block < w.heap.size → w'.cell? p = w.cell? p) : RdF S w' F s l := by
 obtain ⟨h1, h2, h3, h4, h5⟩ := h
 refine ⟨h1, h2, h3, fun hn => ?_, h5⟩
 obtain ⟨a, e, hb, hc⟩ := h4 hn
 refine ⟨a, e, hb, fun j u hu => ?_⟩
 have h6 := hc j u hu
 rw [hk _ (by rw [block_of_add]; exact hb) (World.block_lt_of_cell? w _ h6)]
 exact h6
theorem RdF.nil (S : Shape α) (w : World) (F : Nat → Prop) : RdF S w F ⟨none, 0, 0⟩ [] := ⟨rfl, Nat.le_refl _, (by show 0 ≤ _; exact Nat.zero_le _), fun h => by simp at h, fun _ => rfl⟩
theorem RdF.of_own {B : Nat} {A : Option Addr} {n c : Nat} (h : OwnL S w B (.slice A n c) l) (hF : ∀ g, A = some ⟨g, 0, none⟩ → B ≤ g → g < w.heap.size → F g) : RdF S w F ⟨A, n, c⟩ l := by
 have hrd := RdL.of_own h
 obtain ⟨A', c', e, h1, h2, h3, h4⟩ := hrd
 injection e with e1 e2 e3
 subst e1 e2 e3
 refine ⟨rfl, h1, h2, fun hn => ?_, h4⟩
 obtain ⟨a, e, hb, hc⟩ := h3 hn
 refine ⟨a, e, ?_, hc⟩
 rcases h.2 with ⟨e2, h0⟩ | ⟨g, cap, cur, hv, hg, hh, _⟩
 ·omega
 ·injection hv with hv _ _
  rw [e] at hv
  injection hv with hv
  subst hv
  exact hF g e hg hb
end
inductive NdR (w : World) (F : Nat → Prop) : NV → Nd → Prop
 | mk {kind n : Int} {field text : List UInt8} {lo hi : Bd} {so sk : Sl} {occ : List Int} {nl : List NV} {kids : List Nd} : RdF folS w F so occ → RdF ndS w F sk nl → nl.length = kids.length →
   (∀ (i : Nat) (x : NV) (t : Nd), nl[i]? = some x → kids[i]? = some t → NdR w F x t) → NdR w F ⟨kind, field, text, n, lo, hi, so, sk⟩ (.mk kind field text n lo hi occ kids)
theorem NdR.mono {w : World} {F G : Nat → Prop} {x : NV} {t : Nd} (h : NdR w F x t) (hFG : ∀ b, F b → G b) : NdR w G x t := by
 induction h with
 | mk h1 h2 h3 _ ih => exact .mk (h1.mono hFG) (h2.mono hFG) h3 fun i x t hx ht => ih i x t hx ht
theorem NdR.keep {w w' : World} {F : Nat → Prop} {x : NV} {t : Nd} (h : NdR w F x t) (hk : ∀ p : Addr, F p.block → p.block < w.heap.size → w'.cell? p = w.cell? p) : NdR w' F x t := by
 induction h with
 | mk h1 h2 h3 _ ih => exact .mk (h1.keep hk) (h2.keep hk) h3 fun i x t hx ht => ih i x t hx ht
def NdRs (w : World) (F : Nat → Prop) (nl : List NV) (ts : List Nd) : Prop := nl.length = ts.length ∧ ∀ (i : Nat) (x : NV) (t : Nd), nl[i]? = some x → ts[i]? = some t → NdR w F x t
section
variable {w w' : World} {F G : Nat → Prop} {nl : List NV} {ts : List Nd}
theorem NdRs.mono (h : NdRs w F nl ts) (hFG : ∀ b, F b → G b) : NdRs w G nl ts := ⟨h.1, fun i x t hx ht => (h.2 i x t hx ht).mono hFG⟩
theorem NdRs.keep (h : NdRs w F nl ts) (hk : ∀ p : Addr, F p.block → p.block < w.heap.size → w'.cell? p = w.cell? p) : NdRs w' F nl ts := ⟨h.1, fun i x t hx ht => (h.2 i x t hx ht).keep hk⟩
theorem NdRs.nil (w : World) (F : Nat → Prop) : NdRs w F [] [] := ⟨rfl, fun i x t hx _ => by simp at hx⟩
theorem NdRs.snoc {x : NV} {t : Nd} (h : NdRs w F nl ts) (hx : NdR w F x t) : NdRs w F (nl ++ [x]) (ts ++ [t]) := by
 refine ⟨by rw [List.length_append, List.length_append, h.1]; rfl, fun i y s hy hs => ?_⟩
 by_cases hi : i < nl.length
 ·rw [List.getElem?_append_left hi] at hy
  rw [List.getElem?_append_left (by rw [← h.1]; exact hi)] at hs
  exact h.2 i y s hy hs
 ·rw [List.getElem?_append_right (by omega)] at hy
  rw [List.getElem?_append_right (by rw [← h.1]; omega), ← h.1] at hs
  obtain ⟨k, hk⟩ : ∃ k, k = i - nl.length := ⟨_, rfl⟩
  rw [← hk] at hy hs
  cases k with
  | zero => simp only [List.getElem?_cons_zero, Option.some.injEq] at hy hs; subst hy hs; exact hx
  | succ k => simp at hy
end
def rng (C D : Nat) : Nat → Prop := fun b => C ≤ b ∧ b < D
structure PB (pb : Nat) (w w' : World) : Prop where
 below : Below pb w w'
 keep : ∀ b, b < w.heap.size → b ≠ pb → w'.heap[b]? = w.heap[b]?
section
variable {pb : Nat} {w w' w'' : World}
theorem PB.refl (pb : Nat) (w : World) : PB pb w w := ⟨Below.refl _ _, fun _ _ _ => rfl⟩
theorem PB.size (h : PB pb w w') : w.heap.size ≤ w'.heap.size := h.below.size
theorem PB.trans (h : PB pb w w') (h2 : PB pb w' w'') : PB pb w w'' :=
 ⟨h.below.trans h2.below, fun b hb hp => (h2.keep b (Nat.lt_of_lt_of_le hb h.size) hp).trans (h.keep b hb hp)⟩
theorem PB.of (h : Below w.heap.size w w') (hp : pb ≤ w.heap.size) : PB pb w w' := ⟨h.mono hp, fun b hb _ => h.block b hb⟩
theorem PB.set_ (i : Nat) (u : Value) : PB pb w (w.setCell ⟨pb, i, none⟩ u) :=
 ⟨(Below.refl _ _).setCell (p := ⟨pb, i, none⟩) (Nat.le_refl _) _, fun b _ hp => Below.heap_setCell w ⟨pb, i, none⟩ u b hp⟩
theorem PB.new {z i : Nat} {u : Value} (h : PB pb w w') (hp : pb ≤ w.heap.size) (hz : w.heap.size ≤ z) : PB pb w (w'.setCell ⟨z, i, none⟩ u) :=
 ⟨h.below.setCell (p := ⟨z, i, none⟩) (Nat.le_trans hp hz) _, fun b hb hn => (Below.heap_setCell w' ⟨z, i, none⟩ u b (by show b ≠ z; omega)).trans (h.keep b hb hn)⟩
theorem PB.alloc (h : PB pb w w') (hp : pb ≤ w.heap.size) (o : Obj) : PB pb w (w'.alloc o) :=
 h.trans (.of ((Below.refl _ _).alloc (Nat.le_refl _) o) (Nat.le_trans hp h.size))
theorem PB.drew (h : PB pb w w') : PB pb w w'.drew := ⟨h.below.drew, h.keep⟩
theorem PB.cell (h : PB pb w w') (p : Addr) (hp : p.block < w.heap.size) (hn : p.block ≠ pb) : w'.cell? p = w.cell? p := World.cell?_of_block (h.keep _ hp hn)
end
theorem NdR.pb {pb : Nat} {w w' : World} {F : Nat → Prop} {x : NV} {t : Nd} (h : NdR w F x t) (hk : PB pb w w') (hF : ∀ b, F b → b ≠ pb) : NdR w' F x t := h.keep fun p hp hlt => hk.cell p hlt (hF _ hp)
theorem NdRs.pb {pb : Nat} {w w' : World} {F : Nat → Prop} {nl : List NV} {ts : List Nd} (h : NdRs w F nl ts) (hk : PB pb w w') (hF : ∀ b, F b → b ≠ pb) : NdRs w' F nl ts := h.keep fun p hp hlt => hk.cell p hlt (hF _ hp)
theorem OwnL.pb {α : Type} {S : Shape α} {pb B : Nat} {w w' : World} {v : Value} {l : List α} (h : OwnL S w B v l) (hk : PB pb w w') (hp : pb < B) : OwnL S w' B v l := by
 refine ⟨h.1, ?_⟩
 rcases h.2 with h2 | ⟨g, cap, cur, hv, hg, hh, r⟩
 ·exact Or.inl h2
 ·refine Or.inr ⟨g, cap, cur, hv, hg, ?_, r⟩
  have hlt : g < w.heap.size := by
   rcases Nat.lt_or_ge g w.heap.size with h | h
   ·exact h
   ·rw [Array.getElem?_eq_none h] at hh; cases hh
  rw [hk.keep g hlt (by omega)]; exact hh
structure PsAt (w : World) (pb : Nat) (A : Option Addr) (cap : Nat) (ts : List Lt) (k : Nat) : Prop where
 blk : Blk w pb 85 #[.slice A ts.length cap, .int .i64 (k : Int)]
 rd : RdL ltS w pb (.slice A ts.length cap) ts
section
variable {w w' : World} {pb cap k : Nat} {A : Option Addr} {ts : List Lt}
theorem PsAt.lt (h : PsAt w pb A cap ts k) : pb < w.heap.size := h.blk.lt
theorem PsAt.belowW (h : PsAt w pb A cap ts k) (hb : Below w.heap.size w w') : PsAt w' pb A cap ts k := ⟨h.blk.belowW hb, h.rd.belowW (Nat.le_of_lt h.lt) hb⟩
theorem PsAt.drew (h : PsAt w pb A cap ts k) : PsAt w.drew pb A cap ts k := h.belowW (Below.refl _ _).drew
theorem PsAt.alloc (h : PsAt w pb A cap ts k) (o : Obj) : PsAt (w.alloc o) pb A cap ts k := h.belowW ((Below.refl _ _).alloc (Nat.le_refl _) _)
theorem PsAt.to (h : PsAt w pb A cap ts k) (j : Nat) : PsAt (w.setCell ⟨pb, 1, none⟩ (.int .i64 (j : Int))) pb A cap ts j :=
 ⟨h.blk.set_ 1 _, h.rd.below ((Below.refl _ _).setCell (p := ⟨pb, 1, none⟩) (Nat.le_refl _) _)⟩
theorem PsAt.far {z i : Nat} {u : Value} (h : PsAt w pb A cap ts k) (hz : pb < z) : PsAt (w.setCell ⟨z, i, none⟩ u) pb A cap ts k :=
 ⟨h.blk.far (p := ⟨z, i, none⟩) (by show pb ≠ z; omega) _, h.rd.below ((Below.refl _ _).setCell (p := ⟨z, i, none⟩) (Nat.le_of_lt hz) _)⟩
theorem PsAt.keptN {u : Value} (h : PsAt w pb A cap ts k) (hb : Below pb w w') (hk : KeptBut w w' u) (hu : u.ownBlock ≠ some pb) : PsAt w' pb A cap ts k := by
 refine ⟨?_, h.rd.below hb⟩
 have h2 := h.blk
 unfold Blk at h2 ⊢
 rw [hk pb h.lt hu]; exact h2
end
theorem pkind_any (w : World) (pb : Nat) (A : Option Addr) (cap : Nat) (ts : List Lt) (k : Nat) (h : PsAt w pb A cap ts k) (hk : k < ts.length) (hl : ts.length ≤ 920000000000) :
  Calls Tryd.prog 64 #[.pointer (some ⟨pb, 0, none⟩)] w fun e w' => e = .returned (.int .i64 ts[k].kind) ∧ Below w.heap.size w w' ∧ w'.heap.size = w.heap.size := by
 obtain ⟨a, rfl, hab, q0, -, -, -, -⟩ := at_lt h.rd hk
 have c0 := h.blk.cell 0; have c1 := h.blk.cell 1
 simp only [List.getElem?_toArray, List.getElem?_cons_zero, List.getElem?_cons_succ] at c0 c1
 generalize ts[k].kind = kd at *
 clear h
 go_enter Tryd.func64, Tryd.ntmps64
 go_wp2
 go_quiet (fail)
 go_wp2
 go_ret
 exact ⟨rfl, below_drewN (Below.refl _ _) _, rfl⟩
def NxtRet (pb : Nat) (A : Option Addr) (cap : Nat) (ts : List Lt) (k : Nat) (t : Lt) (w : World) (e : Ending) (w' : World) : Prop :=
 e = .returned (ltVal t) ∧ PB pb w w' ∧ PsAt w' pb A cap ts (k + 1)
theorem pnext_any (w : World) (pb : Nat) (A : Option Addr) (cap : Nat) (ts : List Lt) (k : Nat) (h : PsAt w pb A cap ts k) (hk : k < ts.length) (hl : ts.length ≤ 920000000000) :
  Calls Tryd.prog 92 #[.pointer (some ⟨pb, 0, none⟩)] w (NxtRet pb A cap ts k ts[k] w) := by
 obtain ⟨⟨tk, tx, tn, ta, te⟩, ht⟩ : ∃ t, t = ts[k] := ⟨_, rfl⟩
 rw [← ht]
 have HT := LH ht
 clear ht
 have H := LH h
 have HA1 := LH (h.alloc (.cells #[.int .i64 0, .string ⟨#[]⟩, .int .i64 0, .int .i64 0, .int .i64 0] 74))
 have HZ := LH (Blk.new w 74 #[.int .i64 0, .string ⟨#[]⟩, .int .i64 0, .int .i64 0, .int .i64 0])
 have HB := LH (show Below w.heap.size w (w.alloc (.cells #[.int .i64 0, .string ⟨#[]⟩, .int .i64 0, .int .i64 0, .int .i64 0] 74)) from (Below.refl _ _).alloc (Nat.le_refl _) _)
 have hw1 : (w.alloc (.cells #[.int .i64 0, .string ⟨#[]⟩, .int .i64 0, .int .i64 0, .int .i64 0] 74)).heap.size = w.heap.size + 1 := World.size_alloc _ _
 have HW1 := LH hw1
 clear h hw1
 go_enter Tryd.func92, Tryd.ntmps92
 go_wp2
 generalize w.alloc (.cells #[.int .i64 0, .string ⟨#[]⟩, .int .i64 0, .int .i64 0, .int .i64 0] 74) = w1 at *
 obtain ⟨a, rfl, hab, q0, q1, q2, q3, q4⟩ := at_lt HA1.out.rd hk
 have c0 := HA1.out.blk.cell 0; have c1 := HA1.out.blk.cell 1; have lp := HA1.out.lt
 simp only [List.getElem?_toArray, List.getElem?_cons_zero, List.getElem?_cons_succ] at c0 c1
 rw [← HT.out] at q0 q1 q2 q3 q4
 simp only [] at q0 q1 q2 q3 q4
 have HSF := LH (fun (W : World) (hW : Below w1.heap.size w1 W) => (show W.cell? ⟨pb, 0, none⟩ = some (.slice (some a) ts.length cap) ∧ W.cell? ⟨pb, 1, none⟩ = some (.int .i64 (k : Int)) ∧ W.cell? (a.add (k * 5)) = some (.int .i64 tk) ∧ W.cell? ⟨(a.add (k * 5)).block, (a.add (k * 5)).off + 1, none⟩ = some (.string (str tx)) ∧ W.cell? ⟨(a.add (k * 5)).block, (a.add (k * 5)).off + 2, none⟩ = some (.int .i64 tn) ∧ W.cell? ⟨(a.add (k * 5)).block, (a.add (k * 5)).off + 3, none⟩ = some (.int .i64 ta) ∧ W.cell? ⟨(a.add (k * 5)).block, (a.add (k * 5)).off + 4, none⟩ = some (.int .i64 te) ∧ Below w1.heap.size w1 W from by
  have hlt : (a.add (k * 5)).block < w1.heap.size := by omega
  exact ⟨(hW.cell (p := ⟨pb, 0, none⟩) lp).trans c0, (hW.cell (p := ⟨pb, 1, none⟩) lp).trans c1, (hW.cell hlt).trans q0, (hW.cell (p := ⟨(a.add (k * 5)).block, (a.add (k * 5)).off + 1, none⟩) hlt).trans q1, (hW.cell (p := ⟨(a.add (k * 5)).block, (a.add (k * 5)).off + 2, none⟩) hlt).trans q2, (hW.cell (p := ⟨(a.add (k * 5)).block, (a.add (k * 5)).off + 3, none⟩) hlt).trans q3, (hW.cell (p := ⟨(a.add (k * 5)).block, (a.add (k * 5)).off + 4, none⟩) hlt).trans q4, hW⟩))
 have HA2 := LH ((HA1.out.alloc (.cells #[.int .i64 tk, .string (str tx), .int .i64 tn, .int .i64 ta, .int .i64 te] 74)).drew)
 have HT2 := LH ((Blk.new w1 74 #[.int .i64 tk, .string (str tx), .int .i64 tn, .int .i64 ta, .int .i64 te]).drew)
 have HZ2 := LH ((HZ.out.alloc (.cells #[.int .i64 tk, .string (str tx), .int .i64 tn, .int .i64 ta, .int .i64 te] 74)).drew)
 have HB2 := LH ((HB.out.alloc HB.out.size (.cells #[.int .i64 tk, .string (str tx), .int .i64 tn, .int .i64 ta, .int .i64 te] 74)).drew)
 clear q0 q1 q2 q3 q4 c0 c1 lp
 go_region_held3 (fun W => W.cell? ⟨pb, 0, none⟩ = some (.slice (some a) ts.length cap) ∧ W.cell? ⟨pb, 1, none⟩ = some (.int .i64 (k : Int)) ∧ W.cell? (a.add (k * 5)) = some (.int .i64 tk) ∧ W.cell? ⟨(a.add (k * 5)).block, (a.add (k * 5)).off + 1, none⟩ = some (.string (str tx)) ∧ W.cell? ⟨(a.add (k * 5)).block, (a.add (k * 5)).off + 2, none⟩ = some (.int .i64 tn) ∧ W.cell? ⟨(a.add (k * 5)).block, (a.add (k * 5)).off + 3, none⟩ = some (.int .i64 ta) ∧ W.cell? ⟨(a.add (k * 5)).block, (a.add (k * 5)).off + 4, none⟩ = some (.int .i64 te) ∧ Below w1.heap.size w1 W) (exact HSF.out _ (by repeat (first | assumption | exact Below.refl _ _ | with_reducible refine Below.drew ?_ | with_reducible refine Below.alloc ?_ (by first | exact Nat.le_refl _ | exact Below.size (by assumption)) _))) (fail)
 clear HSF HA1 HZ HB
 generalize (w1.alloc (.cells #[.int .i64 tk, .string (str tx), .int .i64 tn, .int .i64 ta, .int .i64 te] 74)).drew = w2 at *
 have c1 := HA2.out.blk.cell 1; have lp := HA2.out.lt; have fp1 := HA2.out.blk.frozen 1
 have t0 := HT2.out.cell 0; have t1 := HT2.out.cell 1; have t2 := HT2.out.cell 2; have t3 := HT2.out.cell 3; have t4 := HT2.out.cell 4
 have z0 := HZ2.out.cell 0; have z1 := HZ2.out.cell 1; have z2 := HZ2.out.cell 2; have z3 := HZ2.out.cell 3; have z4 := HZ2.out.cell 4; have lz := HZ2.out.lt
 have fz0 := HZ2.out.frozen 0; have fz1 := HZ2.out.frozen 1; have fz2 := HZ2.out.frozen 2; have fz3 := HZ2.out.frozen 3; have fz4 := HZ2.out.frozen 4
 simp only [List.getElem?_toArray, List.getElem?_cons_zero, List.getElem?_cons_succ] at c1 t0 t1 t2 t3 t4 z0 z1 z2 z3 z4
 have hp := H.out.lt
 have hnz : ¬ pb = w.heap.size := by omega
 have hn1 : ¬ pb = w1.heap.size := by have := HW1.out; omega
 have hnz2 : ¬ w.heap.size = pb := by omega
 have hn12 : ¬ w1.heap.size = pb := by have := HW1.out; omega
 have hwk : IntKind.i64.wrap ((k : Int) + 1) = (k : Int) + 1 := IntWalk.i64_in _ (by omega)
 go_wp2
 refine bodyPost_ret (v := ltVal ⟨tk, tx, tn, ta, te⟩) ?_ rfl ?_
 ·simp [results, Tryd.results92, go_sem, ltVal, fz0, fz1, fz2, fz3, fz4, lz, z0, z1, z2, z3, z4]
 ·have h3 := HA2.out.to (k + 1)
  have hz : pb < w.heap.size := hp
  refine ⟨rfl, ?_, ((((h3.far (z := w.heap.size) (i := 0) hz).far (z := w.heap.size) (i := 1) hz).far (z := w.heap.size) (i := 2) hz).far (z := w.heap.size) (i := 3) hz).far (z := w.heap.size) (i := 4) hz⟩
  have hle : pb ≤ w.heap.size := Nat.le_of_lt hp
  have hb2 := (PB.of (pb := pb) HB2.out hle).trans (PB.set_ 1 (.int .i64 ((k + 1 : Nat) : Int)))
  exact ((((hb2.new hle (Nat.le_refl _)).new hle (Nat.le_refl _)).new hle (Nat.le_refl _)).new hle (Nat.le_refl _)).new hle (Nat.le_refl _)
def TakRet (pb : Nat) (A : Option Addr) (cap : Nat) (ts : List Lt) (k : Nat) (b : Bool) (w : World) (e : Ending) (w' : World) : Prop :=
 e = .returned (.bool b) ∧ PB pb w w' ∧ PsAt w' pb A cap ts (if b = true then k + 1 else k)
theorem ptakes_any (w : World) (pb : Nat) (A : Option Addr) (cap : Nat) (ts : List Lt) (k : Nat) (K : Int) (h : PsAt w pb A cap ts k) (hk : k < ts.length) (hl : ts.length ≤ 920000000000) :
  Calls Tryd.prog 65 #[.pointer (some ⟨pb, 0, none⟩), .int .i64 K] w (TakRet pb A cap ts k (decide (ts[k].kind = K)) w) := by
 have HK := LH (pkind_any w pb A cap ts k h hk hl)
 have H := LH h
 generalize ts[k].kind = kd at *
 clear h
 by_cases he : kd = K
 ·have e1 : (kd != K) = false := by simpa using he
  rw [decide_eq_true he]
  clear he
  go_enter Tryd.func65, Tryd.ntmps65
  go_wp2_with fail
  refine HK.out.mono ?_
  rintro e w1 ⟨rfl, hb, hs⟩
  have HB := LH hb
  have HP := LH (H.out.belowW hb)
  have c1 := HP.out.blk.cell 1; have lp := HP.out.lt; have fp1 := HP.out.blk.frozen 1
  simp only [List.getElem?_toArray, List.getElem?_cons_zero, List.getElem?_cons_succ] at c1
  have hwk : IntKind.i64.wrap ((k : Int) + 1) = (k : Int) + 1 := IntWalk.i64_in _ (by omega)
  clear hb hs
  go_wp2
  go_ret
  exact ⟨rfl, (PB.of HB.out (Nat.le_of_lt H.out.lt)).trans (PB.set_ 1 _), HP.out.to (k + 1)⟩
 ·have e1 : (kd != K) = true := by simpa using he
  rw [decide_eq_false he]
  clear he
  go_enter Tryd.func65, Tryd.ntmps65
  go_wp2_with fail
  refine HK.out.mono ?_
  rintro e w1 ⟨rfl, hb, hs⟩
  have HB := LH hb
  have HP := LH (H.out.belowW hb)
  clear hb hs
  go_wp2
  go_ret
  exact ⟨rfl, PB.of HB.out (Nat.le_of_lt H.out.lt), HP.out⟩
def nvLeaf (kind : Int) (field text : List UInt8) (n : Int) : NV := ⟨kind, field, text, n, bd0, bd0, ⟨none, 0, 0⟩, ⟨none, 0, 0⟩⟩
theorem nd_leaf (w : World) (F : Nat → Prop) (kind : Int) (field text : List UInt8) (n : Int) : NdR w F (nvLeaf kind field text n) (ndLeaf kind field text n) :=
 .mk (RdF.nil _ _ _) (RdF.nil _ _ _) rfl fun i x t hx _ => by simp at hx
def TrRet (F : Nat → Prop) (t : Nd) (w : World) (e : Ending) (w' : World) : Prop := Below w.heap.size w w' ∧ ∃ x : NV, e = .returned x.val ∧ NdR w' F x t
theorem NdR.belowW {w w' : World} {F : Nat → Prop} {x : NV} {t : Nd} (h : NdR w F x t) (hb : Below w.heap.size w w') : NdR w' F x t := h.keep fun p _ hlt => hb.cell hlt
theorem NdRs.belowW {w w' : World} {F : Nat → Prop} {nl : List NV} {ts : List Nd} (h : NdRs w F nl ts) (hb : Below w.heap.size w w') : NdRs w' F nl ts := h.keep fun p _ hlt => hb.cell hlt
theorem RdF.belowW {α : Type} {S : Shape α} {w w' : World} {F : Nat → Prop} {s : Sl} {l : List α} (h : RdF S w F s l) (hb : Below w.heap.size w w') : RdF S w' F s l := h.keep fun p _ hlt => hb.cell hlt
theorem treeN_ne {l : List (Int × Nd)} (h : ∀ x, l ≠ [(0, x)]) : treeN l = ndList 0 l := by
 cases l with
 | nil => rfl
 | cons a r =>
  obtain ⟨o, x⟩ := a
  cases r with
  | nil =>
   by_cases ho : o = 0
   ·subst ho; exact absurd rfl (h x)
   ·unfold treeN
    split
    ·rename_i heq; injection heq with h1 _; injection h1 with h1 _; exact absurd h1 ho
    ·rfl
  | cons b r =>
   unfold treeN
   split
   ·rename_i heq; injection heq with _ h2; cases h2
   ·rfl
theorem RdF.nd0 {w : World} {F : Nat → Prop} {A : Option Addr} {n c : Nat} {x : NV} {l : List NV} (h : RdF ndS w F ⟨A, n, c⟩ (x :: l)) : ∃ a, A = some a ∧ F a.block ∧ a.block < w.heap.size ∧ w.cell? a = some (.int .i64 x.kind) ∧ (∀ j u, x.cells[j + 1]? = some u → w.cell? ⟨a.block, a.off + (j + 1), none⟩ = some u) := by
 obtain ⟨-, -, -, h4, -⟩ := h
 obtain ⟨a, e, hb, hc⟩ := h4 (by simp)
 have hcs : ∀ j u, x.cells[j]? = some u → w.cell? (a.add j) = some u := fun j u hu => hc j u (by
  have e2 : ndS.cells (x :: l) = x.cells ++ ndS.cells l := rfl
  rw [e2, List.getElem?_append_left (List.getElem?_eq_some_iff.1 hu).1]; exact hu)
 have h0 := hcs 0 _ (by rfl)
 have e0 : a.add 0 = a := by unfold Addr.add; rfl
 rw [e0] at h0
 refine ⟨a, e, hb, World.block_lt_of_cell? w a h0, h0, fun j u hu => ?_⟩
 have := hcs (j + 1) u hu
 rw [show a.add (j + 1) = ⟨a.block, a.off + (j + 1), none⟩ from by rw [Addr.add, if_neg (by omega)]] at this
 exact this
theorem ptree_any (w : World) (F : Nat → Prop) (sk so : Sl) (nl : List NV) (l : List (Int × Nd)) (hk : RdF ndS w F sk nl) (ho : RdF folS w F so (l.map (·.1))) (hn : NdRs w F nl (l.map (·.2))) (hF : ∀ b, F b → b < w.heap.size) :
  Calls Tryd.prog 44 #[.slice sk.a sk.n sk.c, .slice so.a so.n so.c] w (TrRet F (treeN l) w) := by
 have hlen : nl.length = l.length := by rw [hn.1, List.length_map]
 have hkn : sk.n = nl.length := hk.1
 have hon : so.n = l.length := by rw [ho.1, List.length_map]
 have HK := LH hk; have HO := LH ho; have HN := LH hn
 obtain ⟨ka, kn, kc⟩ := sk
 obtain ⟨oa, on, oc⟩ := so
 simp only [] at hkn hon
 have HB1 := LH (show Below w.heap.size w (w.alloc (.cells #[.int .i64 9, .string ⟨#[]⟩, .string ⟨#[]⟩, .int .i64 0, .bool false, .bool false, .string ⟨#[]⟩, .bool false, .bool false, .string ⟨#[]⟩, .slice oa on oc, .slice ka kn kc] 27)) from (Below.refl _ _).alloc (Nat.le_refl _) _)
 have hfin : ∀ {e : Ending}, treeN l = ndList 0 l → e = .returned (.agg #[.int .i64 9, .string ⟨#[]⟩, .string ⟨#[]⟩, .int .i64 0, .bool false, .bool false, .string ⟨#[]⟩, .bool false, .bool false, .string ⟨#[]⟩, .slice oa on oc, .slice ka kn kc]) → TrRet F (treeN l) w e (w.alloc (.cells #[.int .i64 9, .string ⟨#[]⟩, .string ⟨#[]⟩, .int .i64 0, .bool false, .bool false, .string ⟨#[]⟩, .bool false, .bool false, .string ⟨#[]⟩, .slice oa on oc, .slice ka kn kc] 27)) := by
  intro e hT he
  refine ⟨HB1.out, ⟨9, [], [], 0, bd0, bd0, ⟨oa, on, oc⟩, ⟨ka, kn, kc⟩⟩, he, ?_⟩
  rw [hT]
  exact .mk (HO.out.belowW HB1.out) (HK.out.belowW HB1.out) HN.out.1 (HN.out.belowW HB1.out).2
 have HFIN : Hid (∀ e : Ending, treeN l = ndList 0 l → e = .returned (.agg #[.int .i64 9, .string ⟨#[]⟩, .string ⟨#[]⟩, .int .i64 0, .bool false, .bool false, .string ⟨#[]⟩, .bool false, .bool false, .string ⟨#[]⟩, .slice oa on oc, .slice ka kn kc]) → TrRet F (treeN l) w e (w.alloc (.cells #[.int .i64 9, .string ⟨#[]⟩, .string ⟨#[]⟩, .int .i64 0, .bool false, .bool false, .string ⟨#[]⟩, .bool false, .bool false, .string ⟨#[]⟩, .slice oa on oc, .slice ka kn kc] 27))) := LH fun e h1 h2 => hfin h1 h2
 clear hk ho hn hfin
 by_cases h1 : l.length = 1
 ·obtain ⟨⟨o, x⟩, rfl⟩ := List.length_eq_one_iff.1 h1
  obtain ⟨nv, rfl⟩ := List.length_eq_one_iff.1 hlen
  have hka : kn = 1 := by rw [hkn]; rfl
  have hoa : on = 1 := by rw [hon]; rfl
  subst hka hoa
  have h4 := HO.out.2.2.2.1 (by simp)
  obtain ⟨a, rfl, hab, hac⟩ := h4
  have hoc := hac 0 (.int .i64 o) (by rfl)
  rw [show a.add 0 = a from by unfold Addr.add; rfl] at hoc
  have hal : a.block < w.heap.size := hF _ hab
  by_cases ho0 : o = 0
  ·subst ho0
   obtain ⟨b, rfl, hbF, hbl, hc0, hc⟩ := HK.out.nd0
   obtain ⟨kd, fl, tx, n, ⟨l1, l2, l3⟩, ⟨r1, r2, r3⟩, ⟨sa, sn, sc⟩, ⟨ta, tn, tc⟩⟩ := nv
   have d1 := hc 0 _ rfl; have d2 := hc 1 _ rfl; have d3 := hc 2 _ rfl; have d4 := hc 3 _ rfl; have d5 := hc 4 _ rfl; have d6 := hc 5 _ rfl
   have d7 := hc 6 _ rfl; have d8 := hc 7 _ rfl; have d9 := hc 8 _ rfl; have d10 := hc 9 _ rfl; have d11 := hc 10 _ rfl
   simp only [Nat.zero_add, Nat.reduceAdd] at d1 d2 d3 d4 d5 d6 d7 d8 d9 d10 d11 hc0
   have HR := LH (HN.out.2 0 _ x rfl rfl)
   clear hc hac h1 hlen hkn hon
   go_enter Tryd.func44, Tryd.ntmps44
   go_wp2
   refine bodyPost_ret (v := NV.val ⟨kd, fl, tx, n, ⟨l1, l2, l3⟩, ⟨r1, r2, r3⟩, ⟨sa, sn, sc⟩, ⟨ta, tn, tc⟩⟩) ?_ rfl ?_
   ·simp [results, Tryd.results44, go_sem, World.cell?_alloc_new, NV.val]
   ·have hb := (Below.refl w.heap.size w).alloc (Nat.le_refl _) (.cells #[.int .i64 kd, .string (str fl), .string (str tx), .int .i64 n, .bool l1, .bool l2, .string (str l3), .bool r1, .bool r2, .string (str r3), .slice sa sn sc, .slice ta tn tc] 27)
    exact ⟨hb, _, rfl, HR.out.belowW hb⟩
  ·have HT := LH (treeN_ne (l := [(o, x)]) (fun y h => by injection h with h _; injection h with h _; exact ho0 h))
   have e0 : (o == 0) = false := by simpa using ho0
   clear hac h1 hlen hkn hon ho0
   go_enter Tryd.func44, Tryd.ntmps44
   go_wp2
   refine bodyPost_ret (v := .agg #[.int .i64 9, .string ⟨#[]⟩, .string ⟨#[]⟩, .int .i64 0, .bool false, .bool false, .string ⟨#[]⟩, .bool false, .bool false, .string ⟨#[]⟩, .slice (some a) 1 oc, .slice ka 1 kc]) ?_ rfl ?_
   ·simp [results, Tryd.results44, go_sem, World.cell?_alloc_new]
   ·exact HFIN.out _ HT.out rfl
 ·have HT := LH (treeN_ne (l := l) (fun y h => h1 (by rw [h]; rfl)))
  have e0 : ((kn : Int) == 1) = false := by rw [hkn, hlen]; simp; omega
  clear h1 hlen hkn hon
  go_enter Tryd.func44, Tryd.ntmps44
  go_wp2
  refine bodyPost_ret (v := .agg #[.int .i64 9, .string ⟨#[]⟩, .string ⟨#[]⟩, .int .i64 0, .bool false, .bool false, .string ⟨#[]⟩, .bool false, .bool false, .string ⟨#[]⟩, .slice oa on oc, .slice ka kn kc]) ?_ rfl ?_
  ·simp [results, Tryd.results44, go_sem, World.cell?_alloc_new]
  ·exact HFIN.out _ HT.out rfl
def bdVal (b : Bd) : Value := .agg #[.bool b.open_, .bool b.in_, .string (str b.text)]
theorem pside_any (t : Lt) (i : Bool) (w : World) : Calls Tryd.prog 112 #[ltVal t, .bool i] w fun e w' => e = .returned (bdVal (sideN t i)) ∧ Below w.heap.size w w' := by
 obtain ⟨k, tx, n, a, b⟩ := t
 unfold ltVal
 simp only []
 by_cases hk : k = 2
 ·have e2 : (k == 2) = true := by simpa using hk
  have HR := LH (show sideN ⟨k, tx, n, a, b⟩ i = ⟨true, false, []⟩ from by unfold sideN; rw [if_pos hk])
  clear hk
  rw [HR.out]
  go_enter Tryd.func112, Tryd.ntmps112
  go_wp2
  refine bodyPost_ret (v := .agg #[.bool true, .bool false, .string ⟨#[]⟩]) ?_ rfl ?_
  ·simp [results, Tryd.results112, go_sem, World.cell?_alloc_new]
  ·exact ⟨rfl, ((Below.refl _ _).alloc (Nat.le_refl _) _).alloc (by rw [World.size_alloc]; omega) _⟩
 ·have e2 : (k == 2) = false := by simpa using hk
  have HR := LH (show sideN ⟨k, tx, n, a, b⟩ i = ⟨false, i, tx⟩ from by unfold sideN; rw [if_neg hk])
  clear hk
  rw [HR.out]
  go_enter Tryd.func112, Tryd.ntmps112
  go_wp2
  refine bodyPost_ret (v := .agg #[.bool false, .bool i, .string (str tx)]) ?_ rfl ?_
  ·simp [results, Tryd.results112, go_sem, World.cell?_alloc_new]
  ·exact ⟨rfl, ((Below.refl _ _).alloc (Nat.le_refl _) _).alloc (by rw [World.size_alloc]; omega) _⟩
def patOk : List UInt8 → Prop
 | [] => True
 | [c] => c ≠ 92
 | c :: d :: r => if c = 92 then patOk r else patOk (d :: r)
def PatRet (t : Nd) (w : World) (e : Ending) (w' : World) : Prop := Below w.heap.size w w' ∧ ∃ (kd : Int) (f tx : List UInt8), t = ndLeaf kd f tx 0 ∧ e = .returned (nvLeaf kd f tx 0).val
theorem ownB_frm {w : World} {B : Nat} {v : Value} {l : List UInt8} (h : OwnB w B v l) : ∃ A cp, v = .slice A l.length cp := by
 rcases h.2 with ⟨rfl, h0⟩ | ⟨g, cap, cur, rfl, _⟩
 ·exact ⟨none, 0, by rw [h0]⟩
 ·exact ⟨_, _, rfl⟩
def PatRel (f : List UInt8) (s : ByteArray) (w1 : World) (lv iv : Value) (wr : World) : Prop :=
 ∃ (i : Nat) (L : List UInt8), i ≤ s.size ∧ iv = .int .i64 (i : Int) ∧ OwnB wr w1.heap.size lv L ∧ L.length ≤ i ∧ patF f s.data.toList [] s.data.toList = patF f s.data.toList L (s.data.toList.drop i) ∧ patOk (s.data.toList.drop i) ∧ Below w1.heap.size w1 wr
theorem u8_eq (c : UInt8) (k : Nat) (hk : k < 256) : ((c.toNat : Int) == (k : Int)) = decide (c = UInt8.ofNat k) := by
 by_cases h : c = UInt8.ofNat k
 ·subst h
  rw [decide_eq_true rfl]
  have : (UInt8.ofNat k).toNat = k := by rw [UInt8.toNat_ofNat']; omega
  rw [this]; simp
 ·rw [decide_eq_false h]
  have : c.toNat ≠ k := fun e => h (by rw [← e]; simp)
  simpa using fun e : (c.toNat : Int) = (k : Int) => this (by omega)
theorem ppattern_any (f : List UInt8) (s : ByteArray) (w : World) (hs : s.size ≤ 900000000000) (hok : patOk s.data.toList) :
  Calls Tryd.prog 111 #[.string (str f), .string s] w (PatRet (patN f s.data.toList) w) := by
 by_cases hst : s.data.toList = [42]
 ·have e1 : (s.toList == [42]) = true := by rw [ba_toList, hst]; rfl
  have HR := LH (show patN f s.data.toList = ndLeaf 7 f [] 0 from by unfold patN; rw [if_pos hst])
  clear hst hok
  go_enter Tryd.func111, Tryd.ntmps111
  go_wp2
  refine bodyPost_ret (v := (nvLeaf 7 f [] 0).val) ?_ rfl ?_
  ·simp [results, Tryd.results111, go_sem, World.cell?_alloc_new, NV.val, nvLeaf, bd0, str]
  ·exact ⟨(Below.refl _ _).alloc (Nat.le_refl _) _, _, _, _, HR.out, rfl⟩
 have e1 : (s.toList == [42]) = false := by rw [ba_toList]; simpa using hst
 have HPN := LH (show patN f s.data.toList = patF f s.data.toList [] s.data.toList from by unfold patN; rw [if_neg hst])
 have HOK := LH hok
 have HSL := LH (ba_size s)
 have HSTR := LH (show str s.data.toList = s from rfl)
 clear hst hok
 have HB1 := LH (show Below w.heap.size w (w.alloc zO) from (Below.refl _ _).alloc (Nat.le_refl _) _)
 have HZ := LH (Blk.new w 27 zA)
 go_enter Tryd.func111, Tryd.ntmps111
 go_upto_region 3 with (fail)
 generalize w.alloc zO = w1 at *
 have HO1 := LH (OwnB.lit0 w1 (Nat.le_refl _))
 have HB0 := LH (show Below w1.heap.size w1 (w1.alloc (.cells #[] 5)) from (Below.refl _ _).alloc (Nat.le_refl _) _)
 go_wp2
 go_loopw [5, 6] (fun lv iv wr => PatRel f s w1 lv iv wr) (fun _ iv _ => s.size - (intOf iv).toNat)
 case atStart => exact ⟨0, [], Nat.zero_le _, rfl, HO1.out, Nat.zero_le _, rfl, HOK.out, HB0.out⟩
 case round =>
  obtain ⟨i, L, hi, rfl, ho, hLi, hp, hpo, hb⟩ := hrel
  have HO := LH ho; have HP := LH hp; have HB := LH hb; have HPO := LH hpo
  have HBW := LH (HB1.out.trans (hb.mono HB1.out.size))
  have hsz : w1.heap.size ≤ wr.heap.size := hb.size
  have hzz := HZ.out.below hb HZ.out.lt
  have hzc := fun j => hzz.cell j
  obtain ⟨z0, z1, z2, z3, z4, z5, z6, z7, z8, z9, z10, z11, fz0, fz1, fz2, fz3, fz4, fz5, fz6, fz7, fz8, fz9, fz10, fz11, lz⟩ := blk12 hzz
  have hwk : IntKind.i64.wrap ((i : Int) + 1) = (i : Int) + 1 := IntWalk.i64_in _ (by omega)
  obtain ⟨A5, c5, rfl⟩ := ownB_frm ho
  clear ho hp hb hpo hzz hzc
  by_cases hlt : i < s.size
  ·skip
   have hbx := u8_lt s[i]
   have HD := LH (show s.data.toList.drop i = s[i] :: s.data.toList.drop (i + 1) from by rw [List.drop_eq_getElem_cons (show i < s.data.toList.length from by rw [← ba_size]; exact hlt)]; rfl)
   have u63 := u8_eq s[i] 63 (by omega)
   have u42 := u8_eq s[i] 42 (by omega)
   have u92 := u8_eq s[i] 92 (by omega)
   have HPD := LH (show patF f s.data.toList [] s.data.toList = patF f s.data.toList L (s[i] :: s.data.toList.drop (i + 1)) from by rw [HP.out, HD.out])
   have HPOD := LH (show patOk (s[i] :: s.data.toList.drop (i + 1)) from by rw [← HD.out]; exact HPO.out)
   have HU := LH (And.intro u63 (And.intro u42 u92))
   clear u63 u42 u92
   have hnil : (s.data.toList.drop (i + 1) = [] ∧ ¬ i + 1 < s.size) ∨ (∃ d r, i + 1 < s.size ∧ s.data.toList.drop (i + 1) = d :: r) := by
    by_cases h : i + 1 < s.size
    ·right
     have h2 : i + 1 < s.data.toList.length := by rw [← ba_size]; exact h
     exact ⟨_, _, h, List.drop_eq_getElem_cons h2⟩
    ·left
     exact ⟨List.drop_eq_nil_of_le (by rw [← ba_size]; omega), h⟩
   have HNIL := LH hnil
   clear hnil
   by_cases h63 : s[i] = 63
   ·have e63 : ((s[i].toNat : Int) == 63) = true := by have := HU.out.1; rw [h63] at this ⊢; rfl
    have HR := LH (show patN f s.data.toList = ndLeaf 4 f s.data.toList 0 from by
     rw [HPN.out, HPD.out]
     rcases HNIL.out with ⟨h, _⟩ | ⟨d, r, _, h⟩
     ·rw [h, patF, if_neg (by rw [h63]; decide)]
     ·rw [h, patF, if_pos (.inl h63)])
    clear h63
    go_wp2
    refine bodyPost_ret (v := (nvLeaf 4 f s.data.toList 0).val) ?_ rfl ?_
    ·simp [results, Tryd.results111, go_sem, NV.val, nvLeaf, bd0, str, lz, fz0, fz1, fz2, fz3, fz4, fz5, fz6, fz7, fz8, fz9, fz10, fz11, z0, z1, z2, z3, z4, z5, z6, z7, z8, z9, z10, z11]
    ·refine ⟨?_, _, _, _, HR.out, rfl⟩
     repeat (first | with_reducible exact HBW.out | with_reducible refine Below.setCell ?_ (by show w.heap.size ≤ w.heap.size; exact Nat.le_refl _) _)
   have e63 : ((s[i].toNat : Int) == 63) = false := HU.out.1.trans (decide_eq_false h63)
   by_cases h42 : s[i] = 42
   ·have e42 : ((s[i].toNat : Int) == 42) = true := by rw [h42]; rfl
    rcases HNIL.out with ⟨hd, hn⟩ | ⟨d, r, hn, hd⟩
    ·have HR := LH (show patN f s.data.toList = ndLeaf 3 f L 0 from by rw [HPN.out, HPD.out, hd, patF, if_pos h42])
     have HC := LH HO.out.conv
     have hcv := fun (W : World) (hW : OwnB W w1.heap.size (.slice A5 L.length c5) L) => hW.conv
     have hcv2 := HC.out
     clear h42 h63 hd hcv
     have e3 : decide ((i : Int) + 1 < (s.size : Int)) = false := by simp; omega
     go_wp2
     refine bodyPost_ret (v := (nvLeaf 3 f L 0).val) ?_ rfl ?_
     ·simp [results, Tryd.results111, go_sem, NV.val, nvLeaf, bd0, str, lz, fz0, fz1, fz2, fz3, fz4, fz5, fz6, fz7, fz8, fz9, fz10, fz11, z0, z1, z2, z3, z4, z5, z6, z7, z8, z9, z10, z11]
     ·refine ⟨?_, _, _, _, HR.out, rfl⟩
      repeat (first | with_reducible exact HBW.out | with_reducible refine Below.setCell ?_ (by show w.heap.size ≤ w.heap.size; exact Nat.le_refl _) _)
    ·have HR := LH (show patN f s.data.toList = ndLeaf 4 f s.data.toList 0 from by rw [HPN.out, HPD.out, hd, patF, if_pos (.inr h42)])
     clear h42 h63 hd
     go_wp2
     refine bodyPost_ret (v := (nvLeaf 4 f s.data.toList 0).val) ?_ rfl ?_
     ·simp [results, Tryd.results111, go_sem, NV.val, nvLeaf, bd0, str, lz, fz0, fz1, fz2, fz3, fz4, fz5, fz6, fz7, fz8, fz9, fz10, fz11, z0, z1, z2, z3, z4, z5, z6, z7, z8, z9, z10, z11]
     ·refine ⟨?_, _, _, _, HR.out, rfl⟩
      repeat (first | with_reducible exact HBW.out | with_reducible refine Below.setCell ?_ (by show w.heap.size ≤ w.heap.size; exact Nat.le_refl _) _)
   have e42 : ((s[i].toNat : Int) == 42) = false := HU.out.2.1.trans (decide_eq_false h42)
   by_cases h92 : s[i] = 92
   ·have e92 : ((s[i].toNat : Int) == 92) = true := by rw [h92]; rfl
    rcases HNIL.out with ⟨hd, hn⟩ | ⟨d, r, hn, hd⟩
    ·exact absurd h92 (by have h := HPOD.out; rw [hd] at h; exact h)
    ·have hdv : d = s[i + 1] ∧ r = s.data.toList.drop (i + 2) := by
      have h := hd
      rw [List.drop_eq_getElem_cons (show i + 1 < s.data.toList.length from by rw [← ba_size]; exact hn)] at h
      injection h with h1 h2
      exact ⟨h1.symm, h2.symm⟩
     have HN2 := LH (show patF f s.data.toList [] s.data.toList = patF f s.data.toList (L ++ [s[i + 1]]) (s.data.toList.drop (i + 2)) from by
      rw [HPD.out, hd, patF, if_neg (by rw [not_or]; exact ⟨h63, h42⟩), if_pos h92, ← hdv.1, ← hdv.2])
     have HK2 := LH (show patOk (s.data.toList.drop (i + 2)) from by
      have h := HPOD.out
      rw [hd, patOk, if_pos h92] at h
      rw [← hdv.2]; exact h)
     have hbx2 := u8_lt s[i + 1]
     have hwk2 : IntKind.i64.wrap ((i : Int) + 1 + 1) = (i : Int) + 1 + 1 := IntWalk.i64_in _ (by omega)
     clear h92 h63 h42 hd hdv
     go_wp2_with (at_builtin; refine OwnB.append HO.out s[i + 1].toNat (by omega) (by omega) rfl _ _ rfl rfl rfl hsz ?_ ?_)
     ·omega
     ·intro v' w' h2 h3
      have H2 := LH h2; have HB3 := LH (HB.out.trans h3)
      clear h2 h3
      go_wp2
      go_roundw
      case rel => exact ⟨i + 2, L ++ [s[i + 1]], by omega, by go_num, by have h := H2.out; simpa using h, by rw [List.length_append, List.length_singleton]; omega, HN2.out, HK2.out, HB3.out⟩
      case measure => simp [intOf]; omega
   have e92 : ((s[i].toNat : Int) == 92) = false := HU.out.2.2.trans (decide_eq_false h92)
   have HN2 := LH (show patF f s.data.toList [] s.data.toList = patF f s.data.toList (L ++ [s[i]]) (s.data.toList.drop (i + 1)) from by
    rw [HPD.out]
    rcases HNIL.out with ⟨hd, _⟩ | ⟨d, r, _, hd⟩
    ·rw [hd]; unfold patF; rw [if_neg h42]
    ·rw [hd, patF, if_neg (by rw [not_or]; exact ⟨h63, h42⟩), if_neg h92])
   have HK2 := LH (show patOk (s.data.toList.drop (i + 1)) from by
    have h := HPOD.out
    rcases HNIL.out with ⟨hd, _⟩ | ⟨d, r, _, hd⟩
    ·rw [hd]; trivial
    ·rw [hd, patOk, if_neg h92] at h
     rw [hd]; exact h)
   clear h92 h63 h42
   go_wp2_with (at_builtin; refine OwnB.append HO.out s[i].toNat (by omega) (by omega) rfl _ _ rfl rfl rfl hsz ?_ ?_)
   ·omega
   ·intro v' w' h2 h3
    have H2 := LH h2; have HB3 := LH (HB.out.trans h3)
    clear h2 h3
    go_wp2
    go_roundw
    case rel => exact ⟨i + 1, L ++ [s[i]], by omega, by go_num, by have h := H2.out; simpa using h, by rw [List.length_append, List.length_singleton]; omega, HN2.out, HK2.out, HB3.out⟩
    case measure => simp [intOf]; omega
  ·have HR := LH (show patN f s.data.toList = ndLeaf 4 f s.data.toList 0 from by rw [HPN.out, HP.out, List.drop_eq_nil_of_le (by rw [← ba_size]; omega), patF])
   go_wp2
   refine bodyPost_ret (v := (nvLeaf 4 f s.data.toList 0).val) ?_ rfl ?_
   ·simp [results, Tryd.results111, go_sem, NV.val, nvLeaf, bd0, str, lz, fz0, fz1, fz2, fz3, fz4, fz5, fz6, fz7, fz8, fz9, fz10, fz11, z0, z1, z2, z3, z4, z5, z6, z7, z8, z9, z10, z11]
   ·refine ⟨?_, _, _, _, HR.out, rfl⟩
    repeat (first | with_reducible exact HBW.out | with_reducible refine Below.setCell ?_ (by show w.heap.size ≤ w.heap.size; exact Nat.le_refl _) _)
end Go.Proofs.YthcldpminmhgkaaDoor
end
