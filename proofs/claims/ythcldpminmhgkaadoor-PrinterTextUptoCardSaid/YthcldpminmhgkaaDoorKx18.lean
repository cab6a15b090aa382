/- Merged for a claim by shake.py: Uj -/
import Derived.Maps.AppendAt
import Derived.Test.YthcldpminmhgkaaDoorKx17
set_option maxRecDepth 100000
set_option maxHeartbeats 4000000
set_option linter.unusedSimpArgs false
set_option linter.unusedVariables false
section
namespace Go.Proofs.YthcldpminmhgkaaDoor
open Go.RowKit
theorem OwnL.appendL {α : Type} {S : Shape α} (hS : S.Ok) {w : World} {B : Nat} {v : Value} {l : List α} (h : OwnL S w B v l) (x : α) (nb : Nat) {ops : Array Oper} {rest : List Oper} {o : Oper} {a : Act} {Q : Exit → Act → World → Prop} (hgd : o.guard = none) (s y : Operand)
  (ho : o.op = .call { callee := .builtin .append, args := #[s, y], argTypes := #[S.tS, S.tS] }) (hs : a.eval s = v) (hy : a.eval y = .slice (some ⟨nb, 0, none⟩) 1 1) (cs : Array Value) (hcs : cs = (S.enc x).toArray) (hnb : nb = w.heap.size) (hB : B ≤ w.heap.size) (hl : l.length + 1 ≤ 970000000000)
  (k : ∀ v' w', OwnL S w' B v' (l ++ [x]) → Below B w w' → KeptBut w w' v → (∀ g, v'.ownBlock = some g → v.ownBlock = some g ∨ w.heap.size ≤ g) → wpList Tryd.prog ops Q rest (a.put o.dst v') w') :
  wpList Tryd.prog ops Q (o :: rest) a (w.alloc (.cells cs S.tE)) := by
 subst hcs
 subst hnb
 obtain ⟨i0, hi, hz0, hz1, hz2⟩ := info_parts hS.info
 have hlt := World.ownsRow.lt h
 refine wpList_append_own_at _ hgd s y S.tS ho B S.tE i0 S.zero S.size S.bytes hS.under hi hz0 hz1 hz2 hS.zs hS.pos v l.length (S.cells l) hs (World.ownsRow.alloc h _) ⟨w.heap.size, 0, none⟩ 1 1 (S.enc x) hy (by rw [hS.len, Nat.one_mul]) ?_ (hS.one x) ?_ ?_ ?_ ?_
 ·intro j u hj
  have e : (⟨w.heap.size, 0, none⟩ : Addr).add j = ⟨w.heap.size, j, none⟩ := by unfold Addr.add; split <;> simp_all
  rw [e, World.cell?_alloc_new]
  simpa using hj
 ·unfold maxLen; omega
 ·have := hS.small
  have h1 : (l.length + 1) * S.bytes ≤ 970000000000 * 145 := Nat.mul_le_mul hl this
  omega
 ·rw [World.size_alloc]; omega
 ·intro v' w' h2 h3 _ h5
  refine k v' w' ?_ ?_ ?_ ?_
  ·unfold OwnL
   rw [Shape.cells_snoc, List.length_append, List.length_singleton]
   exact h2
  ·exact ((Below.refl _ _).alloc hB _).grown h3 (by rw [World.size_alloc]; omega) (fun g hg => (hlt g hg).1)
  ·intro b hb hv
   rw [h3.block b (by rw [World.size_alloc]; omega) (fun e => hv e.symm)]
   exact Below.heap_alloc w _ b hb
  ·intro g hg
   rcases h5 with h5 | h5
   ·left; rw [← h5]; exact hg
   ·right
    rw [h5, World.size_alloc] at hg
    injection hg with hg
    omega
structure KA (n1 : Nat) (w : World) (kv : Value) (nl : List NV) (tl : List Nd) : Prop where
 own : OwnL ndS w n1 kv nl
 trees : NdRs w (fun b => n1 ≤ b ∧ b < w.heap.size ∧ kv.ownBlock ≠ some b) nl tl
 hB : n1 ≤ w.heap.size
theorem KA.pb {n1 pb : Nat} {w w' : World} {kv : Value} {nl : List NV} {tl : List Nd} (h : KA n1 w kv nl tl) (hb : PB pb w w') (hp : pb < n1) : KA n1 w' kv nl tl :=
 ⟨h.own.pb hb hp, (h.trees.pb hb (fun b hb => by omega)).mono (fun b hb2 => ⟨hb2.1, Nat.lt_of_lt_of_le hb2.2.1 hb.size, hb2.2.2⟩), Nat.le_trans h.hB hb.size⟩
theorem KA.first {n1 c : Nat} {w : World} {x : NV} {t : Nd} (h : NdR w (rng c w.heap.size) x t) (hc : n1 ≤ c) (hw : n1 ≤ w.heap.size) : KA n1 (w.alloc (.cells x.cells.toArray 27)) (.slice (some ⟨w.heap.size, 0, none⟩) 1 1) [x] [t] := by
 have hB : Below w.heap.size w (w.alloc (.cells x.cells.toArray 27)) := (Below.refl _ _).alloc (Nat.le_refl _) _
 have hsz : (w.alloc (.cells x.cells.toArray 27)).heap.size = w.heap.size + 1 := World.size_alloc _ _
 refine ⟨?_, (NdRs.one (h.belowW hB)).mono (fun b hb => ⟨Nat.le_trans hc hb.1, by rw [hsz]; have := hb.2; omega, fun e => ?_⟩), by rw [hsz]; omega⟩
 ·have h2 := World.ownsRow_lit (base := n1) w (e := 27) (size := 12) x.cells.toArray 1 hw (by unfold maxLen; omega) rfl
  unfold OwnL
  have e : ndS.cells [x] = x.cells := by simp [Shape.cells, ndS]
  rw [e]
  exact h2
 ·have : w.heap.size = b := by simpa [Value.ownBlock] using e
  have := hb.2; omega
theorem KA.app {n1 c : Nat} {w w' : World} {kv v' : Value} {nl : List NV} {tl : List Nd} {x : NV} {t : Nd} (h : KA n1 w kv nl tl) (hx : NdR w (rng c w.heap.size) x t) (hc : n1 ≤ c) (hg : ∀ g, kv.ownBlock = some g → g < c) (h1 : OwnL ndS w' n1 v' (nl ++ [x])) (h2 : Below n1 w w') (h3 : KeptBut w w' kv) (h4 : ∀ g, v'.ownBlock = some g → kv.ownBlock = some g ∨ w.heap.size ≤ g) : KA n1 w' v' (nl ++ [x]) (tl ++ [t]) := by
 have hk : ∀ p : Addr, kv.ownBlock ≠ some p.block → p.block < w.heap.size → w'.cell? p = w.cell? p := fun p hp hlt => World.cell?_of_block (h3 p.block hlt hp)
 refine ⟨h1, NdRs.snoc ?_ ?_, Nat.le_trans h.hB h2.size⟩
 ·refine (h.trees.keep fun p hp hlt => hk p hp.2.2 hlt).mono fun b hb => ⟨hb.1, Nat.lt_of_lt_of_le hb.2.1 h2.size, fun e => ?_⟩
  rcases h4 b e with h5 | h5
  ·exact hb.2.2 h5
  ·have := hb.2.1; omega
 ·refine (hx.keep fun p hp hlt => hk p (fun e => by have := hg _ e; have := hp.1; omega) hlt).mono fun b hb => ⟨Nat.le_trans hc hb.1, Nat.lt_of_lt_of_le hb.2 h2.size, fun e => ?_⟩
  rcases h4 b e with h5 | h5
  ·have := hg _ h5; have := hb.1; omega
  ·have := hb.2; omega
theorem PB.low {pb n1 : Nat} {w w7 w8 : World} (h : PB pb w w7) (hb : Below n1 w7 w8) (hn : w.heap.size ≤ n1) (hp : pb ≤ w.heap.size) : PB pb w w8 :=
 ⟨h.below.trans (hb.mono (Nat.le_trans hp hn)), fun b hlt hne => (hb.block b (Nat.lt_of_lt_of_le hlt hn)).trans (h.keep b hlt hne)⟩
theorem KA.rd {n1 : Nat} {w : World} {A : Option Addr} {n c : Nat} {nl : List NV} {tl : List Nd} (h : KA n1 w (.slice A n c) nl tl) : RdF ndS w (rng n1 w.heap.size) ⟨A, n, c⟩ nl ∧ NdRs w (rng n1 w.heap.size) nl tl :=
 ⟨RdF.of_own h.own fun g _ h1 h2 => ⟨h1, h2⟩, h.trees.mono fun b hb => ⟨hb.1, hb.2.1⟩⟩
theorem KA.form {n1 : Nat} {w : World} {kv : Value} {nl : List NV} {tl : List Nd} (h : KA n1 w kv nl tl) : ∃ A c, kv = .slice A nl.length c := by
 obtain ⟨A, c, e, -, -⟩ := h.own.form
 exact ⟨A, c, e⟩
def zr (tl : List Nd) : List (Int × Nd) := tl.map fun t => (0, t)
theorem zr_snoc (tl : List Nd) (t : Nd) : zr (tl ++ [t]) = zr tl ++ [(0, t)] := by unfold zr; rw [List.map_append]; rfl
theorem wrap_one (kd : Int) (t : Nd) : wrapN kd (zr [t]) = [(0, t)] := rfl
theorem wrap_more (kd : Int) {tl : List Nd} (h : tl.length ≠ 1) : wrapN kd (zr tl) = [(0, ndKids kd 0 tl)] := by
 have e : (zr tl).map (·.2) = tl := by unfold zr; rw [List.map_map]; exact List.map_id tl
 cases tl with
 | nil => rfl
 | cons a r =>
  cases r with
  | nil => exact absurd rfl h
  | cons b r =>
   show [(0, ndKids kd 0 ((zr (a :: b :: r)).map (·.2)))] = _
   rw [e]
def RwRel (w : World) (pb : Nat) (PA : Option Addr) (cap : Nat) (ts : List Lt) (k0 : Nat) (B0 : List Lt) (v0 : Vl) (r : List Cp) (f : List UInt8) (wr : List (Int × Nd) → List (Int × Nd)) (zc oc : Array Value) (gh : Nat) (kv : Value) (W : World) : Prop :=
 ∃ (i : Nat) (nl : List NV) (tl : List Nd), gh = r.length - i ∧ i ≤ r.length ∧ nl.length ≤ i + 1 ∧ PsAt W pb PA cap ts (k0 + (chToks B0 (r.take i)).length) ∧ KA (w.heap.size + 2) W kv nl tl ∧ chVal wr v0 (r.take i) f = zr tl ∧ PB pb w W ∧ Blk W w.heap.size 27 zc ∧ Blk W (w.heap.size + 1) 117 oc
theorem chToks_succ {B0 : List Lt} {r : List Cp} {i : Nat} {x : Cp} (h : r[i]? = some x) : (chToks B0 (r.take (i + 1))).length = (chToks B0 (r.take i)).length + 1 + x.A.length := by
 obtain ⟨hi, rfl⟩ := List.getElem?_eq_some_iff.1 h
 rw [List.take_succ_eq_append_getElem hi]
 unfold chToks
 rw [List.flatMap_append]
 simp only [List.length_append, List.flatMap_cons, List.flatMap_nil, List.append_nil, List.length_cons]
 omega
theorem chVal_succ {wr : List (Int × Nd) → List (Int × Nd)} {v0 : Vl} {r : List Cp} {i : Nat} {x : Cp} (h : r[i]? = some x) (f : List UInt8) : chVal wr v0 (r.take (i + 1)) f = chVal wr v0 (r.take i) f ++ wr (x.v f) := by
 obtain ⟨hi, rfl⟩ := List.getElem?_eq_some_iff.1 h
 rw [List.take_succ_eq_append_getElem hi]
 unfold chVal
 rw [List.flatMap_append]
 simp
theorem chToks_drop {B0 : List Lt} {r : List Cp} {i : Nat} {x : Cp} {ts post : List Lt} {k : Nat} (hd : ts.drop k = chToks B0 r ++ post) (h : r[i]? = some x) : ts.drop (k + (chToks B0 (r.take i)).length) = (x.b :: x.A) ++ ((r.drop (i + 1)).flatMap (fun y => y.b :: y.A) ++ post) := by
 obtain ⟨hi, rfl⟩ := List.getElem?_eq_some_iff.1 h
 refine dropk (X := chToks B0 (r.take i)) ?_
 rw [hd]
 unfold chToks
 have e : r = r.take i ++ (r[i] :: r.drop (i + 1)) := by rw [← List.drop_eq_getElem_cons hi, List.take_append_drop]
 conv => lhs; rw [e]
 rw [List.flatMap_append, List.flatMap_cons]
 simp [List.append_assoc]
theorem chToks_len_le {B0 : List Lt} {r : List Cp} {i : Nat} {x : Cp} (h : r[i]? = some x) : x.A.length < (chToks B0 r).length := by
 obtain ⟨hi, rfl⟩ := List.getElem?_eq_some_iff.1 h
 unfold chToks
 have e : r = r.take i ++ (r[i] :: r.drop (i + 1)) := by rw [← List.drop_eq_getElem_cons hi, List.take_append_drop]
 have e2 : r.flatMap (fun y => y.b :: y.A) = (r.take i).flatMap (fun y => y.b :: y.A) ++ ((r[i].b :: r[i].A) ++ (r.drop (i + 1)).flatMap (fun y => y.b :: y.A)) := by
  conv => lhs; rw [e]
  rw [List.flatMap_append, List.flatMap_cons]
 rw [e2]
 simp only [List.length_append, List.length_cons]
 omega
theorem chToks_r_le {B0 : List Lt} {r : List Cp} : r.length ≤ (chToks B0 r).length := by
 unfold chToks
 rw [List.length_append]
 have : r.length ≤ (r.flatMap fun x => x.b :: x.A).length := by
  induction r with
  | nil => simp
  | cons x r ih => rw [List.flatMap_cons, List.length_append, List.length_cons, List.length_cons]; omega
 omega
end Go.Proofs.YthcldpminmhgkaaDoor
end
