/- Merged for a claim by shake.py: Ui Ch Uj Ul Mq Rw Ya Yb Zb Jt -/
import Derived.Test.YthcldpminmhgkaaDoorKrA
import Derived.Deep.OwnRows
import Derived.Deep.RegionLaw
import Derived.Defers
import Derived.Lib.ItoaNum
import Derived.Maps.AppendAt
import Derived.Recover
import Derived.Test.YthcldpminmhgkaaDoorKr1
import Derived.Test.YthcldpminmhgkaaDoorKr2
import Derived.Test.YthcldpminmhgkaaDoorKr4
import Derived.Test.YthcldpminmhgkaaDoorKr5
import Derived.Test.YthcldpminmhgkaaDoorKr6
import Derived.Test.YthcldpminmhgkaaDoorKr8
import Derived.Test.YthcldpminmhgkaaDoorKr9
import Derived.Test.YthcldpminmhgkaaDoorRows
set_option maxRecDepth 100000
set_option maxHeartbeats 8000000
set_option linter.unusedSimpArgs false
set_option linter.unusedVariables false
section
namespace Go.Proofs.YthcldpminmhgkaaDoor
open Go.RowKit
theorem RdF.kid {w : World} {F : Nat → Prop} {g : Nat} {x : NV} (h : Blk w g 27 x.cells.toArray) (hF : F g) : RdF ndS w F ⟨some ⟨g, 0, none⟩, 1, 1⟩ [x] := by
 refine ⟨rfl, Nat.le_refl _, (by unfold maxLen; show 1 ≤ _; omega), fun _ => ⟨_, rfl, hF, fun j u hu => ?_⟩, fun h => by cases h⟩
 have e : ndS.cells [x] = x.cells := by simp [Shape.cells, ndS]
 rw [e] at hu
 rw [show (⟨g, 0, none⟩ : Addr).add j = ⟨g, j, none⟩ from by unfold Addr.add; split <;> simp_all, h.cell j]
 simpa using hu
theorem NdRs.one {w : World} {F : Nat → Prop} {x : NV} {t : Nd} (h : NdR w F x t) : NdRs w F [x] [t] := (NdRs.nil w F).snoc h
theorem nd_kid {w : World} {F : Nat → Prop} {g : Nat} {kd n : Int} {x : NV} {t : Nd} (h : Blk w g 27 x.cells.toArray) (hF : F g) (hx : NdR w F x t) : NdR w F ⟨kd, [], [], n, bd0, bd0, ⟨none, 0, 0⟩, ⟨some ⟨g, 0, none⟩, 1, 1⟩⟩ (ndKids kd n [t]) :=
 .mk (RdF.nil _ _ _) (RdF.kid h hF) rfl (NdRs.one hx).2
theorem set12_alloc {w : World} {o : Obj} {z : Nat} {x : NV} (hz : z < w.heap.size) : (set12 w z x).alloc o = set12 (w.alloc o) z x := by
 unfold set12
 simp only [World.setCell_alloc_past, set_size, hz]
def sfxK (b : Lt) : Int := if b.kind = 19 then 15 else 14
def sfxT (t : Nd) (S : List Lt) : Nd := S.foldl (fun t b => ndKids (sfxK b) b.n [t]) t
theorem sfxT_snoc (t : Nd) (S : List Lt) (b : Lt) : sfxT t (S ++ [b]) = ndKids (sfxK b) b.n [sfxT t S] := by unfold sfxT; rw [List.foldl_append]; rfl
theorem Blk.set12 {w : World} {z : Nat} {x y : NV} (h : Blk w z 27 x.cells.toArray) : Blk (set12 w z y) z 27 y.cells.toArray := by
 have h2 := (((((((((((h.set_ 0 (.int .i64 y.kind)).set_ 1 (.string (str y.field))).set_ 2 (.string (str y.text))).set_ 3 (.int .i64 y.n)).set_ 4 (.bool y.lo.open_)).set_ 5 (.bool y.lo.in_)).set_ 6 (.string (str y.lo.text))).set_ 7 (.bool y.hi.open_)).set_ 8 (.bool y.hi.in_)).set_ 9 (.string (str y.hi.text))).set_ 10 (.slice y.occ.a y.occ.n y.occ.c)).set_ 11 (.slice y.kids.a y.kids.n y.kids.c)
 simp only [NV.cells, List.setIfInBounds_toArray, List.set_cons_zero, List.set_cons_succ] at h2 ⊢
 exact h2
theorem Blk.off12 {w : World} {z g : Nat} {t : TypeId} {cs : Array Value} {y : NV} (h : Blk w g t cs) (hn : g ≠ z) : Blk (Go.Proofs.YthcldpminmhgkaaDoor.set12 w z y) g t cs := by
 unfold Blk at h ⊢
 rw [set12_block hn]; exact h
def UnF (w : World) (n5 : Nat) (wr : World) : Nat → Prop := fun b => w.heap.size < b ∧ b < wr.heap.size ∧ b ≠ n5
def UnRel (w : World) (pb : Nat) (PA : Option Addr) (cap : Nat) (ts : List Lt) (k0 n5 : Nat) (t0 : Nd) (S : List Lt) (gh : Nat) (wr : World) : Prop :=
 ∃ (j : Nat) (x : NV), gh = S.length - j ∧ j ≤ S.length ∧ PsAt wr pb PA cap ts (k0 + j) ∧ Blk wr n5 27 x.cells.toArray ∧ NdR wr (UnF w n5 wr) x (sfxT t0 (S.take j)) ∧ PB pb w wr ∧ Blk wr w.heap.size 27 zA
theorem UnRel.step {w : World} {pb : Nat} {PA : Option Addr} {cap : Nat} {ts : List Lt} {k0 n5 j : Nat} {t0 : Nd} {S : List Lt} {w8 : World} {x : NV} {b : Lt} (hb : S[j]? = some b) (hw : w.heap.size < n5) (hp : pb < w.heap.size) (h1 : PsAt w8 pb PA cap ts (k0 + j + 1)) (h2 : Blk w8 n5 27 x.cells.toArray) (h3 : NdR w8 (UnF w n5 w8) x (sfxT t0 (S.take j))) (h4 : PB pb w w8) (h5 : Blk w8 w.heap.size 27 zA) :
  UnRel w pb PA cap ts k0 n5 t0 S (S.length - (j + 1)) ((set12 w8 n5 ⟨sfxK b, [], [], b.n, bd0, bd0, ⟨none, 0, 0⟩, ⟨some ⟨w8.heap.size, 0, none⟩, 1, 1⟩⟩).alloc (.cells x.cells.toArray 27)) := by
 have hlt := h2.lt
 rw [set12_alloc hlt]
 have hj := (List.getElem?_eq_some_iff.1 hb)
 obtain ⟨hjl, hjb⟩ := hj
 have hsz : (w8.alloc (.cells x.cells.toArray 27)).heap.size = w8.heap.size + 1 := World.size_alloc _ _
 refine ⟨j + 1, _, rfl, hjl, (h1.alloc _).set12 (by omega), (h2.alloc _).set12, ?_, (h4.alloc (Nat.le_of_lt hp) _).set12 (Nat.le_of_lt hp) (Nat.le_of_lt hw), (h5.alloc _).off12 (by omega)⟩
 have hT : sfxT t0 (S.take (j + 1)) = ndKids (sfxK b) b.n [sfxT t0 (S.take j)] := by
  rw [List.take_succ_eq_append_getElem hjl, sfxT_snoc, hjb]
 rw [hT]
 have hB : Below w8.heap.size w8 (w8.alloc (.cells x.cells.toArray 27)) := (Below.refl _ _).alloc (Nat.le_refl _) _
 have hx := (h3.belowW hB).mono (G := UnF w n5 (set12 (w8.alloc (.cells x.cells.toArray 27)) n5 ⟨sfxK b, [], [], b.n, bd0, bd0, ⟨none, 0, 0⟩, ⟨some ⟨w8.heap.size, 0, none⟩, 1, 1⟩⟩)) (fun c hc => ⟨hc.1, by rw [set12_size, hsz]; have := hc.2.1; omega, hc.2.2⟩)
 exact (nd_kid (Blk.new w8 _ _) (by refine ⟨by have := h5.lt; omega, ?_, by omega⟩; rw [set12_size, hsz]; omega) hx).set12 (fun c hc => hc.2.2)
end Go.Proofs.YthcldpminmhgkaaDoor
end
section
namespace Go.Proofs.YthcldpminmhgkaaDoor
structure Cp where
 b : Lt
 A : List Lt
 v : Vl
def chToks (B0 : List Lt) (r : List Cp) : List Lt := B0 ++ r.flatMap fun x => x.b :: x.A
def chVal (wr : List (Int × Nd) → List (Int × Nd)) (v0 : Vl) (r : List Cp) : Vl := fun f => wr (v0 f) ++ r.flatMap fun x => wr (x.v f)
structure Chain (q : Pt) (k : Int) (wr : List (Int × Nd) → List (Int × Nd)) (A : List Lt) (v : Vl) (B0 : List Lt) (v0 : Vl) (r : List Cp) : Prop where
 toks : A = chToks B0 r
 val : v = chVal wr v0 r
 head : ∃ n, D q B0 n v0
 rest : ∀ x ∈ r, x.b.kind = k ∧ ∃ n, D q x.A n x.v
theorem Chain.one {q : Pt} {k : Int} {wr : List (Int × Nd) → List (Int × Nd)} {A : List Lt} {n : Nat} {v : Vl} (h : D q A n v) : Chain q k wr A (fun f => wr (v f)) A v [] :=
 ⟨by simp [chToks], by funext f; simp [chVal], ⟨n, h⟩, fun x hx => by cases hx⟩
theorem Chain.snoc {q : Pt} {k : Int} {wr : List (Int × Nd) → List (Int × Nd)} {A B B0 : List Lt} {n : Nat} {v v0 u : Vl} {r : List Cp} {b : Lt} (h : Chain q k wr A v B0 v0 r) (hb : b.kind = k) (hB : D q B n u) : Chain q k wr (A ++ b :: B) (fun f => v f ++ wr (u f)) B0 v0 (r ++ [⟨b, B, u⟩]) := by
 obtain ⟨h1, h2, h3, h4⟩ := h
 refine ⟨by rw [h1]; simp [chToks], by rw [h2]; funext f; simp [chVal], h3, fun x hx => ?_⟩
 rcases List.mem_append.1 hx with hx | hx
 ·exact h4 x hx
 ·rw [List.mem_singleton.1 hx]; exact ⟨hb, n, hB⟩
end Go.Proofs.YthcldpminmhgkaaDoor
end
section
namespace Go.Proofs.YthcldpminmhgkaaDoor
open Go.RowKit
structure KA (n1 : Nat) (w : World) (kv : Value) (nl : List NV) (tl : List Nd) : Prop where
 own : OwnL ndS w n1 kv nl
 trees : NdRs w (fun b => n1 ≤ b ∧ b < w.heap.size ∧ kv.ownBlock ≠ some b) nl tl
 hB : n1 ≤ w.heap.size
theorem KA.nil {n1 : Nat} {w : World} (h : n1 ≤ w.heap.size) : KA n1 w (.slice none 0 0) [] [] := ⟨OwnL.nil _ _ _, NdRs.nil _ _, h⟩
theorem KA.pb {n1 pb : Nat} {w w' : World} {kv : Value} {nl : List NV} {tl : List Nd} (h : KA n1 w kv nl tl) (hb : PB pb w w') (hp : pb < n1) : KA n1 w' kv nl tl :=
 ⟨h.own.pb hb hp, (h.trees.pb hb (fun b hb => by omega)).mono (fun b hb2 => ⟨hb2.1, Nat.lt_of_lt_of_le hb2.2.1 hb.size, hb2.2.2⟩), Nat.le_trans h.hB hb.size⟩
theorem KA.first {n1 c : Nat} {w : World} {x : NV} {t : Nd} (h : NdR w (rng c w.heap.size) x t) (hc : n1 ≤ c) (hw : n1 ≤ w.heap.size) : KA n1 (w.alloc (.cells x.cells.toArray 27)) (.slice (some ⟨w.heap.size, 0, none⟩) 1 1) [x] [t] := by
 have hB : Below w.heap.size w (w.alloc (.cells x.cells.toArray 27)) := (Below.refl _ _).alloc (Nat.le_refl _) _
 have hsz : (w.alloc (.cells x.cells.toArray 27)).heap.size = w.heap.size + 1 := World.size_alloc _ _
 refine ⟨?_, (NdRs.one (h.belowW hB)).mono (fun b hb => ⟨Nat.le_trans hc hb.1, by rw [hsz]; have := hb.2; omega, fun e => ?_⟩), by rw [hsz]; omega⟩
 ·have h2 := World.ownsRow_lit (base := n1) w (e := 27) (size := 12) x.cells.toArray 1 hw (by unfold maxLen; omega) rfl
  unfold OwnL
  have e : ndS.cells [x] = x.cells := by simp [Shape.cells, ndS]
  rw [e]
  exact h2
 ·have : w.heap.size = b := by simpa [Value.ownBlock] using e
  have := hb.2; omega
theorem KA.app {n1 c : Nat} {w w' : World} {kv v' : Value} {nl : List NV} {tl : List Nd} {x : NV} {t : Nd} (h : KA n1 w kv nl tl) (hx : NdR w (rng c w.heap.size) x t) (hc : n1 ≤ c) (hg : ∀ g, kv.ownBlock = some g → g < c) (h1 : OwnL ndS w' n1 v' (nl ++ [x])) (h2 : Below n1 w w') (h3 : KeptBut w w' kv) (h4 : ∀ g, v'.ownBlock = some g → kv.ownBlock = some g ∨ w.heap.size ≤ g) : KA n1 w' v' (nl ++ [x]) (tl ++ [t]) := by
 have hk : ∀ p : Addr, kv.ownBlock ≠ some p.block → p.block < w.heap.size → w'.cell? p = w.cell? p := fun p hp hlt => World.cell?_of_block (h3 p.block hlt hp)
 refine ⟨h1, NdRs.snoc ?_ ?_, Nat.le_trans h.hB h2.size⟩
 ·refine (h.trees.keep fun p hp hlt => hk p hp.2.2 hlt).mono fun b hb => ⟨hb.1, Nat.lt_of_lt_of_le hb.2.1 h2.size, fun e => ?_⟩
  rcases h4 b e with h5 | h5
  ·exact hb.2.2 h5
  ·have := hb.2.1; omega
 ·refine (hx.keep fun p hp hlt => hk p (fun e => by have := hg _ e; have := hp.1; omega) hlt).mono fun b hb => ⟨Nat.le_trans hc hb.1, Nat.lt_of_lt_of_le hb.2 h2.size, fun e => ?_⟩
  rcases h4 b e with h5 | h5
  ·have := hg _ h5; have := hb.1; omega
  ·have := hb.2; omega
theorem KA.rd {n1 : Nat} {w : World} {A : Option Addr} {n c : Nat} {nl : List NV} {tl : List Nd} (h : KA n1 w (.slice A n c) nl tl) : RdF ndS w (rng n1 w.heap.size) ⟨A, n, c⟩ nl ∧ NdRs w (rng n1 w.heap.size) nl tl :=
 ⟨RdF.of_own h.own fun g _ h1 h2 => ⟨h1, h2⟩, h.trees.mono fun b hb => ⟨hb.1, hb.2.1⟩⟩
structure KL (n1 : Nat) (w : World) (kv : Value) (nl : List NV) (tl : List Nd) (ov : Value) (ol : List Int) : Prop where
 own : OwnL ndS w n1 kv nl
 occ : OwnL folS w n1 ov ol
 trees : NdRs w (fun b => n1 ≤ b ∧ b < w.heap.size ∧ kv.ownBlock ≠ some b ∧ ov.ownBlock ≠ some b) nl tl
 hB : n1 ≤ w.heap.size
theorem KL.nil {n1 : Nat} {w : World} (h : n1 ≤ w.heap.size) : KL n1 w (.slice none 0 0) [] [] (.slice none 0 0) [] := ⟨OwnL.nil _ _ _, OwnL.nil _ _ _, NdRs.nil _ _, h⟩
section
variable {n1 pb c : Nat} {w w' : World} {kv ov v' : Value} {nl : List NV} {tl : List Nd} {ol : List Int} {x : NV} {t : Nd}
theorem KL.keep (h : KL n1 w kv nl tl ov ol) (hb : PB pb w w') (hp : pb < n1) : KL n1 w' kv nl tl ov ol :=
 ⟨h.own.pb hb hp, h.occ.pb hb hp, (h.trees.pb hb (fun b hb => by omega)).mono (fun b hb2 => ⟨hb2.1, Nat.lt_of_lt_of_le hb2.2.1 hb.size, hb2.2.2⟩), Nat.le_trans h.hB hb.size⟩
end
theorem scanF_count (f : Nat) (l : List UInt8) (i : Nat) : (scanF f l i).1.length ≤ l.length + 1 := by
 induction f generalizing l i with
 | zero => simp [scanF]
 | succ f ih =>
  cases l with
  | nil => simp [scanF]
  | cons c t =>
   rw [scanF, List.length_cons]
   split
   ·have := ih t (i + 1); omega
   ·rename_i hc
    split
    ·simp
    ·rename_i k ht
     have hk := tok_len ht (fun d hd => by cases hd; exact hc)
     rw [List.length_cons] at hk
     have hrec := ih ((c :: t).drop k.len) (i + k.len)
     rw [List.length_drop, List.length_cons] at hrec
     rcases hr : scanF f ((c :: t).drop k.len) (i + k.len) with ⟨u, _ | z⟩
     ·rw [hr] at hrec
      simp only [ahead, List.singleton_append, List.length_cons] at hrec ⊢
      omega
     ·simp [ahead]
theorem scanL_count (l : List UInt8) : (scanL l).1.length ≤ l.length + 1 := by unfold scanL; exact scanF_count _ _ _
end Go.Proofs.YthcldpminmhgkaaDoor
end
section
namespace Go.Proofs.YthcldpminmhgkaaDoor
structure Rw where
 at_ : Nat
 signed : Bool
 open_ : List Bool
def Rw.to (r : Rw) (s : Nat) : Rw := ⟨s, r.signed, r.open_⟩
def stopB (z : UInt8) : Prop := (cls z = 1 ∨ cls z = 2) ∧ isDg z = false
theorem runY_stop {z : UInt8} (hz : stopB z) (b : List UInt8) : runL (z :: b) = some ⟨[], [], 0, 0⟩ := by
 cases b <;> (unfold runL; rw [if_pos hz.1])
theorem runY_stopApp {z : UInt8} (hz : stopB z) : ∀ (a b : List UInt8) (r : Rn), runL a = some r → runL (a ++ z :: b) = some r
 | [], b, r, h => by
  unfold runL at h; cases h
  exact runY_stop hz b
 | [c], b, r, h => by
  unfold runL at h
  rw [List.singleton_append, runL]
  split at h
  ·rename_i hc; cases h; rw [if_pos hc]
  ·rename_i hc
   rw [if_neg hc]
   split at h
   ·rename_i h3; cases h; rw [if_pos h3, runY_stop hz]; rfl
   ·rename_i h3
    rw [if_neg h3]
    split at h
    ·cases h
    ·rename_i h4; cases h; rw [if_neg h4, runY_stop hz]; rfl
 | c :: d :: t, b, r, h => by
  rw [runL] at h
  rw [List.cons_append, List.cons_append, runL]
  split at h
  ·rename_i hc; cases h; rw [if_pos hc]
  ·rename_i hc
   rw [if_neg hc]
   split at h
   ·rename_i h3
    obtain ⟨y, hy, rfl⟩ := Option.map_eq_some_iff.1 h
    have := runY_stopApp hz (d :: t) b y hy
    rw [List.cons_append] at this
    rw [if_pos h3, this]; rfl
   ·rename_i h3
    rw [if_neg h3]
    split at h
    ·rename_i h4
     obtain ⟨y, hy, rfl⟩ := Option.map_eq_some_iff.1 h
     rw [if_pos h4, runY_stopApp hz t b y hy]; rfl
    ·rename_i h4
     obtain ⟨y, hy, rfl⟩ := Option.map_eq_some_iff.1 h
     have := runY_stopApp hz (d :: t) b y hy
     rw [List.cons_append] at this
     rw [if_neg h4, this]; rfl
theorem digs_stopApp {z : UInt8} (hz : stopB z) (a b : List UInt8) : digs (a ++ z :: b) = digs a := by
 unfold digs
 induction a with
 | nil => rw [List.nil_append, List.takeWhile_cons, hz.2]; rfl
 | cons c a ih => rw [List.cons_append, List.takeWhile_cons, List.takeWhile_cons, ih]
theorem numTk_stopApp {z : UInt8} (hz : stopB z) (kind : Int) (a b : List UInt8) (m : Nat) : numTk kind (a ++ z :: b) m = numTk kind a m := by
 unfold numTk numOkB
 rw [digs_stopApp hz]
theorem tok_stopApp {z : UInt8} (hz : stopB z) {c : UInt8} {a b : List UInt8} {k : Tk} (h : tokOf (c :: a) = some k) : tokOf (c :: (a ++ z :: b)) = some k := by
 simp only [tokOf] at h ⊢
 split at h
 ·rename_i hs; rw [if_pos hs]; exact h
 ·rename_i hs
  rw [if_neg hs]
  split at h
  ·rename_i hc
   obtain ⟨y, hy, rfl⟩ := Option.map_eq_some_iff.1 h
   rw [if_pos hc, quotedL_app a _ y hy]; rfl
  ·rename_i hc
   rw [if_neg hc]
   split at h
   ·rename_i h94
    rw [if_pos h94]
    cases a with
    | nil =>
     have : numTk 18 [] 1 = none := by decide
     rw [if_neg (by simp)] at h
     rw [this] at h; cases h
    | cons d a =>
     simp only [List.cons_append, List.head?_cons, List.drop_succ_cons, List.drop_zero] at h ⊢
     rw [numTk_stopApp hz, ← List.cons_append, numTk_stopApp hz]
     exact h
   ·rename_i h94
    rw [if_neg h94]
    split at h
    ·rename_i h126
     rw [if_pos h126, digs_stopApp hz, numTk_stopApp hz]
     exact h
    ·rename_i h126
     rw [if_neg h126]
     split at h
     ·rename_i h64
      rw [if_pos h64, numTk_stopApp hz]; exact h
     ·rename_i h64
      rw [if_neg h64]
      unfold runTk at h ⊢
      obtain ⟨r, hr, rfl⟩ := Option.map_eq_some_iff.1 h
      have hlen := runL_len _ _ hr
      have := runY_stopApp hz (c :: a) b r hr
      rw [List.cons_append] at this
      rw [this]
      simp only [Option.map_some]
      rw [← List.cons_append, List.take_append_of_le_length hlen]
theorem scan_stopApp {z : UInt8} (hz : stopB z) : ∀ (f : Nat) (p q : List UInt8) (i f' : Nat) (la : List Lx), p.length < f → scanF f p i = (la, none) → p.length + q.length + 1 < f' →
  scanF f' (p ++ z :: q) i = ahead la.dropLast (scanF (q.length + 2) (z :: q) (i + p.length))
 | 0, p, q, i, f', la, h, _, _ => by omega
 | _, p, q, i, 0, la, _, _, h => by omega
 | f + 1, [], q, i, f' + 1, la, h, h2, h3 => by
  cases h2
  rw [List.nil_append, List.dropLast_singleton, ahead_nil _ (scanF_or _ _ _)]
  exact scanF_fuel _ _ _ _ (by simp only [List.length_nil, List.length_cons] at h3 ⊢; omega) (by simp only [List.length_cons]; omega)
 | f + 1, c :: t, q, i, f' + 1, la, h, h2, h3 => by
  simp only [List.length_cons] at h h3
  rw [scanF] at h2
  rw [List.cons_append, scanF]
  split at h2
  ·rename_i hc
   rw [if_pos hc, scan_stopApp hz f t q (i + 1) f' la (by omega) h2 (by omega), List.length_cons, show i + 1 + t.length = i + (t.length + 1) from by omega]
  ·rename_i hc
   rw [if_neg hc]
   split at h2
   ·cases h2
   ·rename_i k ht
    have hk := tok_len ht (fun d hd => by cases hd; exact hc)
    simp only [List.length_cons] at hk
    rw [tok_stopApp hz ht]
    rcases hr : scanF f ((c :: t).drop k.len) (i + k.len) with ⟨u, _ | z⟩
    ·rw [hr] at h2
     cases h2
     have hd : ((c :: t).drop k.len).length = t.length + 1 - k.len := by rw [List.length_drop, List.length_cons]
     have := scan_stopApp hz f _ q (i + k.len) f' u (by omega) hr (by omega)
     simp only []
     rw [← List.cons_append, List.drop_append_of_le_length (by rw [List.length_cons]; omega), this, ahead_ahead]
     simp only [List.singleton_append]
     rw [List.dropLast_cons_of_ne_nil (scanF_ne _ _ _ _ hr), hd, List.length_cons,
      show i + k.len + (t.length + 1 - k.len) = i + (t.length + 1) from by omega]
    ·rw [hr] at h2; cases h2
theorem scanL_stopApp {z : UInt8} (hz : stopB z) {p q : List UInt8} {la : List Lx} (h : scanL p = (la, none)) : scanL (p ++ z :: q) = ahead la.dropLast (upAll p.length (scanL (z :: q))) := by
 unfold scanL at h ⊢
 rw [scan_stopApp hz _ p q 0 _ la (by omega) h (by rw [List.length_append, List.length_cons]; omega), ← scanF_up, List.length_cons]
theorem scanL_single {c : UInt8} (h : singleK c ≠ 0) (t : List UInt8) : scanL (c :: t) = ahead [⟨singleK c, [], 0, 0, 1⟩] (upAll 1 (scanL t)) := by
 have hc : cls c ≠ 1 := by
  have := all_bytes' (p := fun c => decide (singleK c ≠ 0 → cls c ≠ 1)) (by decide +kernel) c
  exact of_decide_eq_true this h
 unfold scanL
 rw [List.length_cons, scanF, if_neg hc, ← scanF_up, tokOf, if_pos h]
 rfl
def lk (x : Lt) : Int × List UInt8 × Int := (x.kind, x.text, x.n)
def lkX (x : Lx) : Int × List UInt8 × Int := (x.kind, x.text, x.n)
theorem lkX_up (d : Nat) (l : List Lx) : (l.map (Lx.up d)).map lkX = l.map lkX := by rw [List.map_map]; rfl
theorem lk_lt (l : List Lx) : (l.map Lx.lt).map lk = l.map lkX := by rw [List.map_map]; rfl
def Toks (l : List UInt8) (T : List Lt) : Prop := ∃ (la : List Lx) (e : Lx), scanL l = (la ++ [e], none) ∧ e.kind = 0 ∧ la.map lkX = T.map lk
theorem Toks.nil : Toks [] [] := ⟨[], _, scanL_nil', rfl, rfl⟩
 where scanL_nil' : scanL [] = ([] ++ [⟨0, [], 0, 0, 0⟩], none) := rfl
theorem Toks.app {z : UInt8} (hz : stopB z) {p q : List UInt8} {A B : List Lt} (h : Toks p A) (h2 : Toks (z :: q) B) : Toks (p ++ z :: q) (A ++ B) := by
 obtain ⟨la, e, hs, he, hl⟩ := h
 obtain ⟨lb, e2, hs2, he2, hl2⟩ := h2
 refine ⟨la ++ lb.map (Lx.up p.length), e2.up p.length, ?_, he2, ?_⟩
 ·rw [scanL_stopApp hz hs, hs2, List.dropLast_concat]
  simp [upAll, ahead]
 ·rw [List.map_append, List.map_append, hl, lkX_up, hl2]
theorem Toks.blank {z : UInt8} (hz : cls z = 1) {q : List UInt8} {B : List Lt} (h : Toks q B) : Toks (z :: q) B := by
 obtain ⟨la, e, hs, he, hl⟩ := h
 refine ⟨la.map (Lx.up 1), e.up 1, ?_, he, by rw [lkX_up, hl]⟩
 have : scanL (z :: q) = upAll 1 (scanL q) := by
  unfold scanL
  rw [List.length_cons, scanF, if_pos hz, ← scanF_up]
 rw [this, hs]; simp [upAll]
theorem Toks.single {c : UInt8} {k : Int} (hk : singleK c = k) (h0 : k ≠ 0) {q : List UInt8} {B : List Lt} (h : Toks q B) : Toks (c :: q) (⟨k, [], 0, 0, 0⟩ :: B) := by
 obtain ⟨la, e, hs, he, hl⟩ := h
 refine ⟨⟨k, [], 0, 0, 1⟩ :: la.map (Lx.up 1), e.up 1, ?_, he, ?_⟩
 ·rw [scanL_single (by rw [hk]; exact h0), hs, hk]; simp [upAll, ahead]
 ·rw [List.map_cons, List.map_cons, lkX_up, hl]; rfl
theorem Toks.one {l : List UInt8} {x e : Lx} (h : scanL l = ([x, e], none)) (he : e.kind = 0) : Toks l [⟨x.kind, x.text, x.n, 0, 0⟩] := ⟨[x], e, h, he, rfl⟩
theorem Toks.lk {l : List UInt8} {A B : List Lt} (h : Toks l A) (hb : B.map lk = A.map lk) : Toks l B := by
 obtain ⟨la, e, hs, he, hl⟩ := h
 exact ⟨la, e, hs, he, by rw [hl, hb]⟩
theorem lk_split {A1 A2 B : List Lt} (h : B.map lk = (A1 ++ A2).map lk) : ∃ B1 B2, B = B1 ++ B2 ∧ B1.map lk = A1.map lk ∧ B2.map lk = A2.map lk := by
 rw [List.map_append, List.map_eq_append_iff] at h
 exact h
theorem lk_head {a : Lt} {A B : List Lt} (h : B.map lk = (a :: A).map lk) : ∃ b B', B = b :: B' ∧ b.kind = a.kind ∧ b.text = a.text ∧ b.n = a.n ∧ B'.map lk = A.map lk := by
 rw [List.map_cons, List.map_eq_cons_iff] at h
 obtain ⟨b, B', e, hb, hB⟩ := h
 unfold Go.Proofs.YthcldpminmhgkaaDoor.lk at hb
 simp only [Prod.mk.injEq] at hb
 exact ⟨b, B', e, hb.1, hb.2.1, hb.2.2, hB⟩
theorem lk_none {B : List Lt} (h : B.map lk = ([] : List Lt).map lk) : B = [] := by simpa using h
theorem starT_lk {a b : Lt} (h : b.kind = a.kind) (h2 : b.text = a.text) : starT b = starT a := by unfold starT; rw [h, h2]
theorem sideT_lk {a b : Lt} (h : b.kind = a.kind) (h2 : b.text = a.text) : sideT b = sideT a := by unfold sideT; rw [starT_lk h h2, h]
theorem sideN_lk {a b : Lt} (h : b.kind = a.kind) (h2 : b.text = a.text) (i : Bool) : sideN b i = sideN a i := by unfold sideN; rw [h, h2]
theorem D.lk {p : Pt} {A : List Lt} {n : Nat} {v : Vl} (h : D p A n v) : ∀ B : List Lt, B.map lk = A.map lk → D p B n v := by
 induction h with
 | word ht =>
  intro B hB
  obtain ⟨b, B', rfl, h1, h2, h3, h4⟩ := lk_head hB
  obtain rfl := lk_none h4
  rw [← h2]; exact .word (h1.trans ht)
 | edits ht hu hn =>
  intro B hB
  obtain ⟨b, B', rfl, h1, h2, h3, h4⟩ := lk_head hB
  obtain ⟨c, B', rfl, g1, g2, g3, g4⟩ := lk_head h4
  obtain rfl := lk_none g4
  rw [← h2, ← g3]; exact .edits (h1.trans ht) (g1.trans hu) (by rw [g3]; exact hn)
 | pat ht =>
  intro B hB
  obtain ⟨b, B', rfl, h1, h2, h3, h4⟩ := lk_head hB
  obtain rfl := lk_none h4
  rw [← h2]; exact .pat (h1.trans ht)
 | quo ht =>
  intro B hB
  obtain ⟨b, B', rfl, h1, h2, h3, h4⟩ := lk_head hB
  obtain rfl := lk_none h4
  rw [← h2]; exact .quo (h1.trans ht)
 | slop ht hu hn =>
  intro B hB
  obtain ⟨b, B', rfl, h1, h2, h3, h4⟩ := lk_head hB
  obtain ⟨c, B', rfl, g1, g2, g3, g4⟩ := lk_head h4
  obtain rfl := lk_none g4
  rw [← h2, ← g3]; exact .slop (h1.trans ht) (g1.trans hu) (by rw [g3]; exact hn)
 | span ha hb hc hd he =>
  intro B hB
  obtain ⟨a1, B', rfl, p1, p2, p3, p4⟩ := lk_head hB
  obtain ⟨a2, B', rfl, q1, q2, q3, q4⟩ := lk_head p4
  obtain ⟨a3, B', rfl, r1, r2, r3, r4⟩ := lk_head q4
  obtain ⟨a4, B', rfl, s1, s2, s3, s4⟩ := lk_head r4
  obtain ⟨a5, B', rfl, t1, t2, t3, t4⟩ := lk_head s4
  obtain rfl := lk_none t4
  rw [← p1, ← t1, ← sideN_lk q1 q2, ← sideN_lk s1 s2]
  exact .span (by rw [p1]; exact ha) (by rw [sideT_lk q1 q2]; exact hb) (by rw [r1]; exact hc) (by rw [sideT_lk s1 s2]; exact hd) (by rw [t1]; exact he)
 | group ho _ hc ih =>
  intro B hB
  obtain ⟨o1, B', rfl, h1, h2, h3, h4⟩ := lk_head hB
  obtain ⟨B1, B2, rfl, g1, g2⟩ := lk_split h4
  obtain ⟨c1, B', rfl, k1, k2, k3, k4⟩ := lk_head g2
  obtain rfl := lk_none k4
  exact .group (h1.trans ho) (ih B1 g1) (k1.trans hc)
 | least ho _ hc hl ih =>
  intro B hB
  obtain ⟨o1, B', rfl, h1, h2, h3, h4⟩ := lk_head hB
  obtain ⟨B1, B2, rfl, g1, g2⟩ := lk_split h4
  obtain ⟨c1, B', rfl, k1, k2, k3, k4⟩ := lk_head g2
  obtain ⟨l1, B', rfl, m1, m2, m3, m4⟩ := lk_head k4
  obtain rfl := lk_none m4
  rw [← m3]
  exact .least (h1.trans ho) (ih B1 g1) (k1.trans hc) (m1.trans hl)
 | leafB _ ih => exact fun B hB => .leafB (ih B hB)
 | groupB _ ih => exact fun B hB => .groupB (ih B hB)
 | bodyA _ ih => exact fun B hB => .bodyA (ih B hB)
 | field hw hc _ ih =>
  intro B hB
  obtain ⟨w1, B', rfl, h1, h2, h3, h4⟩ := lk_head hB
  obtain ⟨c1, B', rfl, g1, g2, g3, g4⟩ := lk_head h4
  rw [← h2]
  exact .field (h1.trans hw) (g1.trans hc) (ih _ g4)
 | all hs hc ht =>
  intro B hB
  obtain ⟨w1, B', rfl, h1, h2, h3, h4⟩ := lk_head hB
  obtain ⟨c1, B', rfl, g1, g2, g3, g4⟩ := lk_head h4
  obtain ⟨t1, B', rfl, k1, k2, k3, k4⟩ := lk_head g4
  obtain rfl := lk_none k4
  exact .all (by rw [starT_lk h1 h2]; exact hs) (g1.trans hc) (by rw [starT_lk k1 k2]; exact ht)
 | atomP _ ih => exact fun B hB => .atomP (ih B hB)
 | sfx _ hb ih =>
  intro B hB
  obtain ⟨B1, B2, rfl, g1, g2⟩ := lk_split hB
  obtain ⟨c1, B', rfl, k1, k2, k3, k4⟩ := lk_head g2
  obtain rfl := lk_none k4
  rw [← k1, ← k3]
  exact .sfx (ih B1 g1) (by rw [k1]; exact hb)
 | pieceU _ ih => exact fun B hB => .pieceU (ih B hB)
 | not ht _ ih =>
  intro B hB
  obtain ⟨w1, B', rfl, h1, h2, h3, h4⟩ := lk_head hB
  exact .not (h1.trans ht) (ih _ h4)
 | maxU _ ih => exact fun B hB => .maxU (ih B hB)
 | bar _ hb _ ih1 ih2 =>
  intro B hB
  obtain ⟨B1, B2, rfl, g1, g2⟩ := lk_split hB
  obtain ⟨c1, B', rfl, k1, k2, k3, k4⟩ := lk_head g2
  exact .bar (ih1 B1 g1) (k1.trans hb) (ih2 _ k4)
 | andM _ ih => exact fun B hB => .andM (ih B hB)
 | and _ hb _ ih1 ih2 =>
  intro B hB
  obtain ⟨B1, B2, rfl, g1, g2⟩ := lk_split hB
  obtain ⟨c1, B', rfl, k1, k2, k3, k4⟩ := lk_head g2
  exact .and (ih1 B1 g1) (k1.trans hb) (ih2 _ k4)
 | orA _ ih => exact fun B hB => .orA (ih B hB)
 | or _ hb _ ih1 ih2 =>
  intro B hB
  obtain ⟨B1, B2, rfl, g1, g2⟩ := lk_split hB
  obtain ⟨c1, B', rfl, k1, k2, k3, k4⟩ := lk_head g2
  exact .or (ih1 B1 g1) (k1.trans hb) (ih2 _ k4)
 | clauseO _ ih => exact fun B hB => .clauseO (ih B hB)
 | sign hs _ ih =>
  intro B hB
  obtain ⟨w1, B', rfl, h1, h2, h3, h4⟩ := lk_head hB
  rw [← h1]
  exact .sign (by rw [h1]; exact hs) (ih _ h4)
 | one _ ih => exact fun B hB => .one (ih B hB)
 | more _ _ ih1 ih2 =>
  intro B hB
  obtain ⟨B1, B2, rfl, g1, g2⟩ := lk_split hB
  exact .more (ih1 B1 g1) (ih2 B2 g2)
theorem D.list2 {A B : List Lt} {n m : Nat} {v u : Vl} (h : D .list A n v) (h2 : D .list B m u) : D .list (A ++ B) (max n m) fun f => v f ++ u f := by
 generalize hp : Pt.list = p at h2
 induction h2 with
 | one h2 => exact .more h h2
 | more _ h2 ih _ =>
  rw [← List.append_assoc, ← Nat.max_assoc]
  have := D.more (ih hp) h2
  simpa only [List.append_assoc] using this
 | _ => cases hp
def Der (l : List UInt8) (n : Nat) (t : Nd) : Prop := ∃ (A : List Lt) (v : Vl), Toks l A ∧ D .list A n v ∧ t = treeN (v [])
theorem der_mk {l : List UInt8} {A : List Lt} {n : Nat} {v : Vl} {t : Nd} (hT : Toks l A) (hD : D .list A n v) (ht : t = treeN (v [])) : Der l n t := ⟨A, v, hT, hD, ht⟩
theorem Der.toks {l : List UInt8} {n : Nat} {t : Nd} (h : Der l n t) : ∃ (la : List Lx) (A : List Lt) (e : Lt) (v : Vl), scanL l = (la, none) ∧ la.map Lx.lt = A ++ [e] ∧ e.kind = 0 ∧ D .list A n v ∧ t = treeN (v []) := by
 obtain ⟨A, v, ⟨la, e, hs, he, hl⟩, hD, ht⟩ := h
 exact ⟨la ++ [e], la.map Lx.lt, e.lt, v, hs, by simp, he, hD.lk _ (by rw [lk_lt]; exact hl), ht⟩
def one1 (g : List UInt8 → Nd) : Vl := fun f => [(0, g f)]
theorem D.single {A : List Lt} {n : Nat} {g : List UInt8 → Nd} (h : D .unary A n (one1 g)) : D .list A n (one1 g) := .one (.clauseO (.orA (.andM (.maxU h))))
def tkOpen : Lt := ⟨8, [], 0, 0, 0⟩
def tkClose : Lt := ⟨9, [], 0, 0, 0⟩
theorem D.paren {A : List Lt} {n : Nat} {v : Vl} (h : D .list A n v) : D .piece (tkOpen :: (A ++ [tkClose])) (n + 1) (one1 fun f => treeN (v f)) :=
 .atomP (.bodyA (.groupB (.group rfl h rfl)))
theorem stop41 : stopB 41 := ⟨.inr (by decide), by decide⟩
theorem stop32 : stopB 32 := ⟨.inl (by decide), by decide⟩
theorem blank32 : cls 32 = 1 := by decide
theorem toks_close {q : List UInt8} {B : List Lt} (h : Toks q B) : Toks (41 :: q) (tkClose :: B) := .single (by decide) (by decide) h
theorem toks_open {q : List UInt8} {B : List Lt} (h : Toks q B) : Toks (40 :: q) (tkOpen :: B) := .single (by decide) (by decide) h
theorem toks_paren {p q : List UInt8} {A B : List Lt} (h : Toks p A) (h2 : Toks q B) : Toks (40 :: (p ++ 41 :: q)) (tkOpen :: (A ++ tkClose :: B)) :=
 toks_open (.app stop41 h (toks_close h2))
theorem Der.paren {q : List UInt8} {n : Nat} {t : Nd} (h : Der q n t) : Der (40 :: (q ++ [41])) (n + 1) t := by
 obtain ⟨A, v, hT, hD, rfl⟩ := h
 exact ⟨_, _, toks_paren hT .nil, (D.pieceU hD.paren).single, rfl⟩
theorem Der.blank {p q : List UInt8} {n m : Nat} {x y : Nd} (h : Der p n x) (h2 : Der q m y) : ∃ t, Der (p ++ 32 :: q) (max n m) t := by
 obtain ⟨A, v, hT, hD, rfl⟩ := h
 obtain ⟨B, u, hT2, hD2, rfl⟩ := h2
 exact ⟨_, _, _, .app stop32 hT (.blank blank32 hT2), hD.list2 hD2, rfl⟩
def tkMark (k : Int) : Lt := ⟨k, [], 0, 0, 0⟩
theorem toks_or : Toks [79, 82] [tkMark 5] := ⟨[⟨5, [], 0, 0, 2⟩], ⟨0, [], 0, 2, 2⟩, by rfl, rfl, rfl⟩
theorem toks_and : Toks [65, 78, 68] [tkMark 4] := ⟨[⟨4, [], 0, 0, 3⟩], ⟨0, [], 0, 3, 3⟩, by rfl, rfl, rfl⟩
theorem toks_bar : Toks [124] [tkMark 17] := ⟨[⟨17, [], 0, 0, 1⟩], ⟨0, [], 0, 1, 1⟩, by rfl, rfl, rfl⟩
theorem toks_joined {p q mk : List UInt8} {A B M : List Lt} (hp : Toks p A) (hq : Toks q B) (hm : Toks mk M) :
  Toks (40 :: (p ++ 41 :: 32 :: (mk ++ 32 :: 40 :: (q ++ [41])))) (tkOpen :: (A ++ tkClose :: (M ++ (tkOpen :: (B ++ [tkClose]))))) :=
 toks_paren hp (.blank blank32 (.app stop32 hm (.blank blank32 (toks_paren hq .nil))))
theorem joined_app {A B : List Lt} {m : Lt} : tkOpen :: (A ++ tkClose :: ([m] ++ (tkOpen :: (B ++ [tkClose])))) = tkOpen :: (A ++ [tkClose]) ++ m :: (tkOpen :: (B ++ [tkClose])) := by simp
theorem Der.or {p q : List UInt8} {n m : Nat} {x y : Nd} (h : Der p n x) (h2 : Der q m y) : Der (40 :: (p ++ 41 :: 32 :: ([79, 82] ++ 32 :: 40 :: (q ++ [41])))) (max (n + 1) (m + 1)) (ndKids 11 0 [x, y]) := by
 obtain ⟨A, v, hT, hD, rfl⟩ := h
 obtain ⟨B, u, hT2, hD2, rfl⟩ := h2
 have ht := toks_joined hT hT2 toks_or
 rw [joined_app] at ht
 refine der_mk ht (.one (.clauseO (.or (b := tkMark 5) (.orA (.andM (.maxU (.pieceU hD.paren)))) rfl (.andM (.maxU (.pieceU hD2.paren)))))) rfl
theorem Der.and {p q : List UInt8} {n m : Nat} {x y : Nd} (h : Der p n x) (h2 : Der q m y) : Der (40 :: (p ++ 41 :: 32 :: ([65, 78, 68] ++ 32 :: 40 :: (q ++ [41])))) (max (n + 1) (m + 1)) (ndKids 10 0 [x, y]) := by
 obtain ⟨A, v, hT, hD, rfl⟩ := h
 obtain ⟨B, u, hT2, hD2, rfl⟩ := h2
 have ht := toks_joined hT hT2 toks_and
 rw [joined_app] at ht
 refine der_mk ht (.one (.clauseO (.orA (.and (b := tkMark 4) (.andM (.maxU (.pieceU hD.paren))) rfl (.maxU (.pieceU hD2.paren)))))) rfl
theorem Der.bar {p q : List UInt8} {n m : Nat} {x y : Nd} (h : Der p n x) (h2 : Der q m y) : Der (40 :: (p ++ 41 :: 32 :: ([124] ++ 32 :: 40 :: (q ++ [41])))) (max (n + 1) (m + 1)) (ndKids 12 0 [x, y]) := by
 obtain ⟨A, v, hT, hD, rfl⟩ := h
 obtain ⟨B, u, hT2, hD2, rfl⟩ := h2
 have ht := toks_joined hT hT2 toks_bar
 rw [joined_app] at ht
 refine der_mk ht (.one (.clauseO (.orA (.andM (.bar (b := tkMark 17) (.maxU (.pieceU hD.paren)) rfl (.pieceU hD2.paren)))))) rfl
def tkPlus : Lt := ⟨15, [], 0, 0, 0⟩
def tkMinus : Lt := ⟨16, [], 0, 0, 0⟩
theorem Der.signs {p q : List UInt8} {n m : Nat} {x y : Nd} (h : Der p n x) (h2 : Der q m y) : Der (43 :: 40 :: (p ++ 41 :: 32 :: 45 :: 40 :: (q ++ [41]))) (max (n + 1) (m + 1)) (ndList 0 [(1, x), (2, y)]) := by
 obtain ⟨A, v, hT, hD, rfl⟩ := h
 obtain ⟨B, u, hT2, hD2, rfl⟩ := h2
 have h1 : Toks (45 :: 40 :: (q ++ 41 :: [])) (tkMinus :: _) := .single (by decide) (by decide) (toks_paren hT2 .nil)
 have h2 : Toks (43 :: 40 :: (p ++ 41 :: 32 :: 45 :: 40 :: (q ++ 41 :: []))) (tkPlus :: _) := .single (by decide) (by decide) (toks_paren hT (.blank blank32 h1))
 have e : tkPlus :: tkOpen :: (A ++ tkClose :: tkMinus :: tkOpen :: (B ++ [tkClose])) = tkPlus :: (tkOpen :: (A ++ [tkClose])) ++ tkMinus :: (tkOpen :: (B ++ [tkClose])) := by simp
 rw [e] at h2
 exact der_mk h2 (.more (.one (.sign (s := tkPlus) (.inl rfl) (.pieceU hD.paren))) (.sign (s := tkMinus) (.inr rfl) (.pieceU hD2.paren))) rfl
end Go.Proofs.YthcldpminmhgkaaDoor
end
section
namespace Go.Proofs.YthcldpminmhgkaaDoor
open Go.RowKit
theorem Der.le {l : List UInt8} {n : Nat} {t : Nd} (h : Der l n t) : n ≤ l.length := by
 obtain ⟨la, A, e, v, hs, hA, he, hD, _⟩ := h.toks
 have h1 := hD.nest_le
 have h2 := scanL_count l
 rw [hs] at h2
 have h3 := congrArg List.length hA
 rw [List.length_map, List.length_append, List.length_singleton] at h3
 simp only [] at h2
 omega
end Go.Proofs.YthcldpminmhgkaaDoor
end
section
namespace Go.Proofs.YthcldpminmhgkaaDoor
def Bd.nil (b : Bd) : Bool := !b.open_ && !b.in_ && b.text.isEmpty
def Bd.ok (b : Bd) : Bool := !b.open_ || (!b.in_ && b.text.isEmpty)
def wildP : List UInt8 → Nat → Nat → Int → Option (Nat × Int)
 | [], _, marks, last => some (marks, last)
 | c :: r, i, marks, last =>
  if c = 42 then wildP r (i + 1) (marks + 1) i
  else if c = 63 then wildP r (i + 1) (marks + 2) last
  else if c = 92 then match r with
   | [] => none
   | d :: r2 => if d = 42 ∨ d = 63 ∨ d = 92 then wildP r2 (i + 2) marks last else none
  else wildP r (i + 1) marks last
def wildB (l : List UInt8) : Bool := match wildP l 0 0 (-1) with
 | none => false
 | some (m, last) => decide (1 < m) || (decide (m = 1) && decide (last ≠ (l.length : Int) - 1))
def maxNum : Int := 999999999
def numB (n : Int) : Bool := decide (0 ≤ n) && decide (n ≤ maxNum)
def occB (l : List Int) : Bool := l.all fun o => decide (0 ≤ o) && decide (o ≤ 2)
def ownN (kind : Int) (field text : List UInt8) (n : Int) (lo hi : Bd) (occ : List Int) (nk : Nat) : Bool :=
 if kind = 1 ∨ kind = 3 then !text.isEmpty && decide (n = 0) && lo.nil && hi.nil && occ.isEmpty && decide (nk = 0)
 else if kind = 2 then numB n && lo.nil && hi.nil && occ.isEmpty && decide (nk = 0)
 else if kind = 4 then wildB text && decide (n = 0) && lo.nil && hi.nil && occ.isEmpty && decide (nk = 0)
 else if kind = 5 then !text.isEmpty && (decide (n = 1) || decide (n = 2)) && lo.nil && hi.nil && occ.isEmpty && decide (nk = 0)
 else if kind = 6 then text.isEmpty && decide (n = 0) && lo.ok && hi.ok && occ.isEmpty && decide (nk = 0)
 else if kind = 7 then text.isEmpty && decide (n = 0) && lo.nil && hi.nil && occ.isEmpty && decide (nk = 0)
 else if kind = 8 then field.isEmpty && text.isEmpty && decide (n = 0) && lo.nil && hi.nil && occ.isEmpty && decide (nk = 0)
 else if kind = 9 then field.isEmpty && text.isEmpty && numB n && lo.nil && hi.nil && decide (occ.length = nk) && occB occ && decide (0 < nk)
 else if kind = 10 ∨ kind = 11 ∨ kind = 12 then field.isEmpty && text.isEmpty && decide (n = 0) && lo.nil && hi.nil && occ.isEmpty && decide (0 < nk)
 else if kind = 13 then field.isEmpty && text.isEmpty && decide (n = 0) && lo.nil && hi.nil && occ.isEmpty && decide (nk = 1)
 else if kind = 14 ∨ kind = 15 then field.isEmpty && text.isEmpty && numB n && lo.nil && hi.nil && occ.isEmpty && decide (nk = 1)
 else false
mutual
def goodN : Nd → Bool
 | .mk kind field text n lo hi occ ks => ownN kind field text n lo hi occ ks.length && goodNs ks
def goodNs : List Nd → Bool
 | [] => true
 | k :: ks => goodN k && goodNs ks
end
mutual
def sizeN : Nd → Nat
 | .mk _ _ _ _ _ _ _ ks => 1 + sizeNs ks
def sizeNs : List Nd → Nat
 | [] => 0
 | k :: ks => sizeN k + sizeNs ks
end
mutual
def wtN : Nd → Nat
 | .mk _ _ _ _ _ _ occ ks => 1 + occ.length + wtNs ks
def wtNs : List Nd → Nat
 | [] => 0
 | k :: ks => wtN k + wtNs ks
end
mutual
def leftN : Nd → Int → Int
 | .mk _ _ _ _ _ _ occ ks, m => leftNs ks (m - 1 - occ.length)
def leftNs : List Nd → Int → Int
 | [], m => m
 | k :: ks, m => if 0 ≤ m then leftNs ks (leftN k m) else m
end
mutual
theorem left_eq : ∀ (t : Nd) (m : Int), (0 ≤ leftN t m ↔ (wtN t : Int) ≤ m) ∧ (0 ≤ leftN t m → leftN t m = m - wtN t) ∧ leftN t m ≤ m - 1
 | .mk _ _ _ _ _ _ occ ks, m => by
  have h := lefts_eq ks (m - 1 - occ.length)
  simp only [leftN, wtN]
  omega
theorem lefts_eq : ∀ (l : List Nd) (m : Int), (0 ≤ leftNs l m ↔ (wtNs l : Int) ≤ m) ∧ (0 ≤ leftNs l m → leftNs l m = m - wtNs l) ∧ leftNs l m ≤ m
 | [], m => by simp only [leftNs, wtNs]; omega
 | k :: ks, m => by
  have h := left_eq k m
  have h2 := lefts_eq ks (leftN k m)
  simp only [leftNs, wtNs]
  by_cases hm : 0 ≤ m
  ·rw [if_pos hm]; omega
  ·rw [if_neg hm]; omega
end
def canTop (kind : Int) (field text : List UInt8) (n : Int) (lo hi : Bd) (occ : List Int) : List Nd → Nd
 | [c] => if kind = 10 ∨ kind = 11 ∨ kind = 12 ∨ (kind = 9 ∧ n = 0 ∧ occ[0]? = some 0) then c else .mk kind field text n lo hi occ [c]
 | cs => .mk kind field text n lo hi occ cs
mutual
def canonN : Nd → Nd
 | .mk kind field text n lo hi occ ks => canTop kind field text n lo hi occ (canonNs ks)
def canonNs : List Nd → List Nd
 | [] => []
 | k :: ks => canonN k :: canonNs ks
end
def levK (kind n : Int) : Nat := if kind = 9 then (if 0 < n then 6 else 0) else if kind = 10 then 2 else if kind = 11 then 1 else if kind = 12 then 3 else if kind = 13 then 4 else if kind = 14 ∨ kind = 15 then 5 else 6
def levN : Nd → Nat
 | .mk kind _ _ n _ _ _ _ => levK kind n
def barK (kind o : Int) : Nat := if kind = 9 then (if o = 0 then 1 else 4) else if kind = 10 then 3 else if kind = 11 then 2 else if kind = 14 ∨ kind = 15 then 5 else 4
def deepK (kind n : Int) : Nat := if kind = 13 ∨ kind = 14 ∨ kind = 15 ∨ (kind = 9 ∧ 0 < n) then 1 else 0
mutual
def nestN : Nd → Nat
 | .mk kind _ _ n _ _ occ ks => nestNs kind occ ks + deepK kind n
def nestNs (kind : Int) : List Int → List Nd → Nat
 | _, [] => 0
 | occ, k :: ks => max (nestN k + if levN k < barK kind (occ.headD 0) then 1 else 0) (nestNs kind occ.tail ks)
end
def decN (n : Nat) : List UInt8 := Lib.decDigits n
def pesc (c : UInt8) : List UInt8 := if c = 42 ∨ c = 63 ∨ c = 92 then [92, c] else [c]
def litL (l : List UInt8) : List UInt8 := l.flatMap pesc
def sideF (b : Bd) : List UInt8 := if b.open_ = true then [42] else if b.text = [] then quoteL [] else wordL b.text
def leafF (kind : Int) (text : List UInt8) (n : Int) (lo hi : Bd) : List UInt8 :=
 if kind = 1 then wordL text
 else if kind = 2 then (if 0 < n then quoteL text ++ 126 :: decN n.toNat else quoteL text)
 else if kind = 3 then patternL (litL text ++ [42])
 else if kind = 4 then patternL text
 else if kind = 5 then wordL text ++ 126 :: decN n.toNat
 else if kind = 6 then (if lo.in_ = true ∨ lo.open_ = true then 91 else 123) :: (sideF lo ++ [32, 84, 79, 32] ++ sideF hi ++ [if hi.in_ = true ∨ hi.open_ = true then 93 else 125])
 else [42]
def headF (field : List UInt8) : List UInt8 := if field = [] then [] else wordL field ++ [58]
def signF (o : Int) : List UInt8 := if o = 1 then [43] else if o = 2 then [45] else []
def sepF (kind : Int) : List UInt8 := if kind = 10 then [32, 65, 78, 68, 32] else if kind = 11 then [32, 79, 82, 32] else if kind = 12 then [32, 124, 32] else [32]
def aroundF (kind n : Int) (s : List UInt8) : List UInt8 :=
 if kind = 9 then (if 0 < n then 40 :: (s ++ 41 :: 64 :: decN n.toNat) else s)
 else if kind = 13 then [78, 79, 84, 32] ++ s
 else if kind = 14 then s ++ 94 :: decN n.toNat
 else if kind = 15 then s ++ 94 :: 61 :: decN n.toNat
 else s
def brF (b : Bool) (s : List UInt8) : List UInt8 := if b = true then 40 :: (s ++ [41]) else s
mutual
def formN : Nd → List UInt8
 | .mk kind field text n lo hi occ ks => if kind < 9 then (if kind = 8 then [42, 58, 42] else headF field ++ leafF kind text n lo hi) else aroundF kind n (formNs kind true occ ks)
def formNs (kind : Int) : Bool → List Int → List Nd → List UInt8
 | _, _, [] => []
 | first, occ, k :: ks => (if first = true then [] else sepF kind) ++ (if kind = 9 then signF (occ.headD 0) else []) ++ brF (decide (levN k < barK kind (occ.headD 0))) (formN k) ++ formNs kind false occ.tail ks
end
mutual
def sameN : Nd → Nd → Bool
 | .mk kind field text n lo hi occ ks, .mk kind2 field2 text2 n2 lo2 hi2 occ2 ks2 =>
  decide (kind = kind2) && decide (field = field2) && decide (text = text2) && decide (n = n2) && decide (lo.open_ = lo2.open_) && decide (lo.in_ = lo2.in_) && decide (lo.text = lo2.text) &&
   decide (hi.open_ = hi2.open_) && decide (hi.in_ = hi2.in_) && decide (hi.text = hi2.text) && decide (occ = occ2) && sameNs ks ks2
def sameNs : List Nd → List Nd → Bool
 | [], [] => true
 | [], _ :: _ => false
 | _ :: _, [] => false
 | x :: xs, y :: ys => sameN x y && sameNs xs ys
end
mutual
theorem same_iff : ∀ a b : Nd, sameN a b = true ↔ a = b
 | .mk kind field text n ⟨a1, a2, a3⟩ ⟨b1, b2, b3⟩ occ ks, .mk kind2 field2 text2 n2 ⟨c1, c2, c3⟩ ⟨d1, d2, d3⟩ occ2 ks2 => by
  have h := sames_iff ks ks2
  simp only [sameN, Bool.and_eq_true, decide_eq_true_eq, h, Nd.mk.injEq, Bd.mk.injEq]
  simp only [and_assoc]
theorem sames_iff : ∀ a b : List Nd, sameNs a b = true ↔ a = b
 | [], [] => by simp [sameNs]
 | [], _ :: _ => by simp [sameNs]
 | _ :: _, [] => by simp [sameNs]
 | x :: xs, y :: ys => by
  have h := same_iff x y
  have h2 := sames_iff xs ys
  simp only [sameNs, Bool.and_eq_true, h, h2, List.cons.injEq]
end
end Go.Proofs.YthcldpminmhgkaaDoor
end
