/- Merged for a claim by shake.py: Base Own OwnL Own2 Rd Blk Kept Ph Row Ra -/
import Derived.Below
import Derived.BigQuiet
import Derived.Carry
import Derived.ChangeSame
import Derived.Deep.AppendLies
import Derived.Deep.DeepCutAuto
import Derived.Deep.DeepFit
import Derived.Deep.DeepMust
import Derived.Deep.Draws
import Derived.Deep.Fields
import Derived.Deep.LoopGhost
import Derived.Deep.QuietTactic
import Derived.Deep.RegionHeld3
import Derived.Deep.RegionHeldLaw
import Derived.Deep.RegionWith
import Derived.Deep.Slices
import Derived.KernelRfl
import Derived.Laws.AppendOwnNone
import Derived.Laws.OwnMore
import Derived.Laws.Rows
import Derived.Lib.Hide
import Derived.Lib.Strings
import Derived.Maps.AppendAt
import Derived.OpenShut
import Derived.ShutString
import Derived.StillTailTactics
import Derived.Test.YthcldpminmhgkaaDoorProg
import Derived.WalkKit
import Derived.WalkLawsBesides
import Derived.WalkSpells
set_option linter.unusedVariables false
set_option maxRecDepth 100000
section
namespace Go.Proofs.YthcldpminmhgkaaDoor
open Go.RowKit
theorem snoc_ind {α : Type} {p : List α → Prop} (h0 : p []) (h1 : ∀ l a, p l → p (l ++ [a])) : ∀ l, p l := by
 intro l
 rw [← List.reverse_reverse l]
 induction l.reverse with
 | nil => exact h0
 | cons a l ih => rw [List.reverse_cons]; exact h1 _ _ ih
theorem u8_lt (b : UInt8) : (b.toNat : Int) < 256 := by have := b.toNat_lt; omega
theorem ba_ext {a b : ByteArray} (h : a.data.toList = b.data.toList) : a = b := by
 cases a; cases b; congr 1; exact Array.toList_inj.1 h
theorem ba_toList (a : ByteArray) : a.toList = a.data.toList := Lib.toList_data a
theorem ba_size (a : ByteArray) : a.size = a.data.toList.length := by rw [Array.length_toList]; rfl
theorem conv_lit {P : Program} (src e T : TypeId) (hs : P.underlying src = some (.slice e)) (he : P.underlying e = some (.int .u8)) (dst : TypeId) (hd : P.underlying dst = some .string) (xs : List Int) (n : Nat) (hn : xs.length = n) (W : World) :
  (convert src dst (.slice (some ⟨W.heap.size, 0, none⟩) n n)).run P (W.alloc (.cells (xs.map (Value.int .u8)).toArray T)) = .ok (.string (strOfNums xs)) (W.alloc (.cells (xs.map (Value.int .u8)).toArray T)) := by
 subst hn
 refine run_convert_bytes_arg (P := P) (W.alloc (.cells (xs.map (Value.int .u8)).toArray T)) src e hs he W.heap.size 0 xs.length xs.length xs rfl (fun i hi => ?_) dst hd
 rw [World.cell?_alloc_new, Nat.zero_add]
 simp [List.getD, hi]
def chr (c : Int) : ByteArray := strOfNums [c]
theorem conv_one {P : Program} (src e T : TypeId) (hs : P.underlying src = some (.slice e)) (he : P.underlying e = some (.int .u8)) (dst : TypeId) (hd : P.underlying dst = some .string) (W : World) (x : Int) :
  (convert src dst (.slice (some ⟨W.heap.size, 0, none⟩) 1 1)).run P (W.alloc (.cells #[.int .u8 x] T)) = .ok (.string (chr x)) (W.alloc (.cells #[.int .u8 x] T)) :=
 conv_lit src e T hs he dst hd [x] 1 rfl W
theorem str_add {P : Program} (a b : ByteArray) (h : a.size + b.size ≤ 9223372036854775807) (W : World) : (Op.stringOp .add a b).run P W = .ok (.string (a ++ b)) W :=
 run_string_add_sum (P := P) (w := W) a b h
theorem chr_size (c : Int) : (chr c).size = 1 := rfl
theorem chr_data (c : Int) : (chr c).data.toList = [UInt8.ofNat c.toNat] := rfl
theorem ba_append (a b : ByteArray) : (a ++ b).data.toList = a.data.toList ++ b.data.toList := by simp
theorem ba_append_size (a b : ByteArray) : (a ++ b).size = a.size + b.size := by simp
theorem infoB : (Tryd.prog.info? 5).map (fun i => (i.zero, i.size, i.bytes)) = some (some (.int .u8 0), 1, 1) := by kernel_rfl
def byteVals (l : List UInt8) : List Value := l.map fun b => .int .u8 b.toNat
theorem byteVals_snoc (l : List UInt8) (b : UInt8) : byteVals (l ++ [b]) = byteVals l ++ [.int .u8 b.toNat] := by simp [byteVals]
theorem byteVals_length (l : List UInt8) : (byteVals l).length = l.length := by simp [byteVals]
def OwnB (w : World) (B : Nat) (v : Value) (l : List UInt8) : Prop := w.ownsRow B 5 1 v l.length (byteVals l)
theorem OwnB.alloc {w : World} {B : Nat} {v : Value} {l : List UInt8} (h : OwnB w B v l) (o : Obj) : OwnB (w.alloc o) B v l := World.ownsRow.alloc h o
theorem OwnB.drew {w : World} {B : Nat} {v : Value} {l : List UInt8} (h : OwnB w B v l) : OwnB w.drew B v l := h
theorem OwnB.below {w w' : World} {B : Nat} {v : Value} {l : List UInt8} (h : OwnB w B v l) (hb : Below w.heap.size w w') : OwnB w' B v l := by
 refine ⟨h.1, ?_⟩
 rcases h.2 with h2 | ⟨g, cap, cur, hv, hg, hh, r⟩
 ·exact Or.inl h2
 ·refine Or.inr ⟨g, cap, cur, hv, hg, ?_, r⟩
  have hlt : g < w.heap.size := by
   rcases Nat.lt_or_ge g w.heap.size with h | h
   ·exact h
   ·rw [Array.getElem?_eq_none h] at hh; cases hh
  rw [hb.block g hlt]; exact hh
theorem OwnB.nil (w : World) (B : Nat) : OwnB w B (.slice none 0 0) [] := World.ownsRow_nil w B 5 1
theorem OwnB.lit0 (w : World) {B : Nat} (hB : B ≤ w.heap.size) : OwnB (w.alloc (.cells #[] 5)) B (.slice (some ⟨w.heap.size, 0, none⟩) 0 0) [] :=
 World.ownsRow_lit w #[] 0 hB (by unfold maxLen; omega) rfl
theorem OwnB.lit1 (w : World) {B : Nat} (hB : B ≤ w.heap.size) (b : UInt8) : OwnB (w.alloc (.cells #[.int .u8 b.toNat] 5)) B (.slice (some ⟨w.heap.size, 0, none⟩) 1 1) [b] :=
 World.ownsRow_lit w #[.int .u8 b.toNat] 1 hB (by unfold maxLen; omega) rfl
theorem OwnB.lit2 (w : World) {B : Nat} (hB : B ≤ w.heap.size) (a b : UInt8) : OwnB (w.alloc (.cells #[.int .u8 a.toNat, .int .u8 b.toNat] 5)) B (.slice (some ⟨w.heap.size, 0, none⟩) 2 2) [a, b] :=
 World.ownsRow_lit w #[.int .u8 a.toNat, .int .u8 b.toNat] 2 hB (by unfold maxLen; omega) rfl
def str (l : List UInt8) : ByteArray := ⟨l.toArray⟩
theorem str_data (l : List UInt8) : (str l).data.toList = l := rfl
theorem str_size (l : List UInt8) : (str l).size = l.length := rfl
theorem strOfNums_bytes (l : List UInt8) : strOfNums (l.map fun b => (b.toNat : Int)) = str l := by
 unfold strOfNums str
 congr 1
 congr 1
 rw [List.map_map]
 conv => rhs; rw [← List.map_id l]
 apply List.map_congr_left
 intro b _
 simp
theorem OwnB.conv {w : World} {B : Nat} {v : Value} {l : List UInt8} (h : OwnB w B v l) : (convert 64 9 v).run Tryd.prog w = .ok (.string (str l)) w := by
 rcases h.2 with ⟨rfl, h0⟩ | ⟨g, cap, cur, rfl, hg, hh, hn, hm, hs, ht⟩
 ·have : l = [] := List.eq_nil_of_length_eq_zero h0
  subst this
  exact run_convert_bytes_nil (P := Tryd.prog) w 64 5 Tryd.underlying64 Tryd.underlying5 0 0 9 Tryd.underlying9
 ·rw [← strOfNums_bytes]
  refine run_convert_bytes_arg (P := Tryd.prog) w 64 5 Tryd.underlying64 Tryd.underlying5 g 0 l.length cap _ (by simp) (fun i hi => ?_) 9 Tryd.underlying9
  have hc := h.cellAt i (by omega)
  rw [Nat.zero_add, hc]
  simp [byteVals, List.getD, hi]
theorem OwnB.append {w : World} {B : Nat} {v : Value} {l : List UInt8} (h : OwnB w B v l) (x : Int) (hx0 : 0 ≤ x) (hx1 : x ≤ 255) {ops : Array Oper} {rest : List Oper} {o : Oper} {a : Act} {Q : Exit → Act → World → Prop} (hgd : o.guard = none) (s y : Operand)
  (ho : o.op = .call { callee := .builtin .append, args := #[s, y], argTypes := #[64, 64] }) (hs : a.eval s = v) (hy : a.eval y = .slice (some ⟨w.heap.size, 0, none⟩) 1 1) (hB : B ≤ w.heap.size) (hl : l.length + 1 ≤ 140737488355328)
  (k : ∀ v' w', OwnB w' B v' (l ++ [UInt8.ofNat x.toNat]) → Below B w w' → wpList Tryd.prog ops Q rest (a.put o.dst v') w') :
  wpList Tryd.prog ops Q (o :: rest) a (w.alloc (.cells #[.int .u8 x] 5)) := by
 obtain ⟨i0, hi, hz0, hz1, hz2⟩ := info_parts infoB
 have hlt := h.lt
 refine wpList_append_own _ hgd s y 64 ho B 5 i0 (.int .u8 0) 1 1 Tryd.underlying64 hi hz0 hz1 hz2 rfl (by decide) v l.length (byteVals l) hs (World.ownsRow.alloc h _) ⟨w.heap.size, 0, none⟩ 1 1 [.int .u8 x] hy rfl ?_ ?_ ?_ ?_ ?_ ?_
 ·intro j u hj
  cases j with
  | zero =>
   have : u = .int .u8 x := by simpa using hj.symm
   subst this
   exact World.cell?_alloc_new w _ _ 0
  | succ j => simp at hj
 ·intro u hu
  have : u = .int .u8 x := by simpa using hu
  subst this; rfl
 ·unfold maxLen; omega
 ·omega
 ·rw [World.size_alloc]; omega
 ·intro v' w' h2 h3 _
  refine k v' w' ?_ ?_
  ·unfold OwnB
   have e : ((UInt8.ofNat x.toNat).toNat : Int) = x := by rw [UInt8.toNat_ofNat']; omega
   rw [byteVals_snoc, e, List.length_append, List.length_singleton]
   exact h2
  ·exact ((Below.refl _ _).alloc hB _).grown h3 (by rw [World.size_alloc]; omega) (fun g hg => (hlt g hg).1)
theorem OwnB.appendAll {w : World} {B B2 : Nat} {v x : Value} {l m : List UInt8} (h : OwnB w B v l) (hx : OwnB w B2 x m) {ops : Array Oper} {rest : List Oper} {o : Oper} {a : Act} {Q : Exit → Act → World → Prop} (hgd : o.guard = none) (s y : Operand)
  (ho : o.op = .call { callee := .builtin .append, args := #[s, y], argTypes := #[64, 64] }) (hs : a.eval s = v) (hy : a.eval y = x) (hB : B ≤ w.heap.size) (hl : l.length + m.length ≤ 140737488355328)
  (k : ∀ v' w', OwnB w' B v' (l ++ m) → Below B w w' → wpList Tryd.prog ops Q rest (a.put o.dst v') w') :
  wpList Tryd.prog ops Q (o :: rest) a w := by
 obtain ⟨i0, hi, hz0, hz1, hz2⟩ := info_parts infoB
 have hlt := h.lt
 rcases hx.2 with ⟨rfl, h0⟩ | ⟨g, cap, cur, rfl, hg, hh, hn, hm, hcs, ht⟩
 ·have e : m = [] := List.eq_nil_of_length_eq_zero h0
  subst e
  refine wpList_append_own_none hgd s y 64 ho B 5 i0 1 Tryd.underlying64 hi v l.length (byteVals l) hs h hy ?_
  exact k v w (by rw [List.append_nil]; exact h) (Below.refl _ _)
 ·refine wpList_append_own _ hgd s y 64 ho B 5 i0 (.int .u8 0) 1 1 Tryd.underlying64 hi hz0 hz1 hz2 rfl (by decide) v l.length (byteVals l) hs h ⟨g, 0, none⟩ m.length cap (byteVals m) hy (by rw [byteVals_length, Nat.mul_one]) ?_ ?_ ?_ ?_ hB ?_
  ·exact World.ownsRow.cells hx rfl
  ·intro u hu
   obtain ⟨b, _, rfl⟩ := List.mem_map.1 hu
   rfl
  ·unfold maxLen; omega
  ·omega
  ·intro v' w' h2 h3 _
   refine k v' w' ?_ ?_
   ·unfold OwnB
    rw [List.length_append, show byteVals (l ++ m) = byteVals l ++ byteVals m from List.map_append]
    exact h2
   ·exact (Below.refl _ _).grown h3 hB (fun g hg => (hlt g hg).1)
def KeptBut (w w' : World) (v : Value) : Prop := ∀ b, b < w.heap.size → v.ownBlock ≠ some b → w'.heap[b]? = w.heap[b]?
theorem KeptBut.cell {w w' : World} {v : Value} (h : KeptBut w w' v) {b o : Nat} (hb : b < w.heap.size) (hv : v.ownBlock ≠ some b) : w'.cell? ⟨b, o, none⟩ = w.cell? ⟨b, o, none⟩ := by
 simp [World.cell?, h b hb hv]
theorem OwnB.ne_new {w : World} {B : Nat} {v : Value} {l : List UInt8} (h : OwnB w B v l) {b : Nat} (hb : w.heap.size ≤ b) : v.ownBlock ≠ some b := fun e => by have := (h.lt b e).2; omega
theorem OwnB.appendAt {w : World} {B : Nat} {v : Value} {l : List UInt8} (h : OwnB w B v l) (x : Int) (nb : Nat) {ops : Array Oper} {rest : List Oper} {o : Oper} {a : Act} {Q : Exit → Act → World → Prop} (hgd : o.guard = none) (s y : Operand)
  (ho : o.op = .call { callee := .builtin .append, args := #[s, y], argTypes := #[64, 64] }) (hs : a.eval s = v) (hy : a.eval y = .slice (some ⟨nb, 0, none⟩) 1 1) (hnb : nb = w.heap.size) (hx0 : 0 ≤ x) (hx1 : x ≤ 255) (hB : B ≤ w.heap.size) (hl : l.length + 1 ≤ 140737488355328)
  (k : ∀ v' w', OwnB w' B v' (l ++ [UInt8.ofNat x.toNat]) → Below B w w' → KeptBut w w' v → wpList Tryd.prog ops Q rest (a.put o.dst v') w') :
  wpList Tryd.prog ops Q (o :: rest) a (w.alloc (.cells #[.int .u8 x] 5)) := by
 subst hnb
 obtain ⟨i0, hi, hz0, hz1, hz2⟩ := info_parts infoB
 have hlt := h.lt
 refine wpList_append_own _ hgd s y 64 ho B 5 i0 (.int .u8 0) 1 1 Tryd.underlying64 hi hz0 hz1 hz2 rfl (by decide) v l.length (byteVals l) hs (World.ownsRow.alloc h _) ⟨w.heap.size, 0, none⟩ 1 1 [.int .u8 x] hy rfl ?_ ?_ ?_ ?_ ?_ ?_
 ·intro j u hj
  cases j with
  | zero =>
   have : u = .int .u8 x := by simpa using hj.symm
   subst this
   exact World.cell?_alloc_new w _ _ 0
  | succ j => simp at hj
 ·intro u hu
  have : u = .int .u8 x := by simpa using hu
  subst this; rfl
 ·unfold maxLen; omega
 ·omega
 ·rw [World.size_alloc]; omega
 ·intro v' w' h2 h3 _
  refine k v' w' ?_ ?_ ?_
  ·unfold OwnB
   have e : ((UInt8.ofNat x.toNat).toNat : Int) = x := by rw [UInt8.toNat_ofNat']; omega
   rw [byteVals_snoc, e, List.length_append, List.length_singleton]
   exact h2
  ·exact ((Below.refl _ _).alloc hB _).grown h3 (by rw [World.size_alloc]; omega) (fun g hg => (hlt g hg).1)
  ·intro b hb hv
   rw [h3.block b (by rw [World.size_alloc]; omega) (fun e => hv e.symm)]
   exact Below.heap_alloc w _ b hb
theorem OwnB.appendAllK {w : World} {B B2 : Nat} {v x : Value} {l m : List UInt8} (h : OwnB w B v l) (hx : OwnB w B2 x m) {ops : Array Oper} {rest : List Oper} {o : Oper} {a : Act} {Q : Exit → Act → World → Prop} (hgd : o.guard = none) (s y : Operand)
  (ho : o.op = .call { callee := .builtin .append, args := #[s, y], argTypes := #[64, 64] }) (hs : a.eval s = v) (hy : a.eval y = x) (hB : B ≤ w.heap.size) (hl : l.length + m.length ≤ 140737488355328)
  (k : ∀ v' w', OwnB w' B v' (l ++ m) → Below B w w' → KeptBut w w' v → wpList Tryd.prog ops Q rest (a.put o.dst v') w') :
  wpList Tryd.prog ops Q (o :: rest) a w := by
 obtain ⟨i0, hi, hz0, hz1, hz2⟩ := info_parts infoB
 have hlt := h.lt
 rcases hx.2 with ⟨rfl, h0⟩ | ⟨g, cap, cur, rfl, hg, hh, hn, hm, hcs, ht⟩
 ·have e : m = [] := List.eq_nil_of_length_eq_zero h0
  subst e
  refine wpList_append_own_none hgd s y 64 ho B 5 i0 1 Tryd.underlying64 hi v l.length (byteVals l) hs h hy ?_
  exact k v w (by rw [List.append_nil]; exact h) (Below.refl _ _) (fun _ _ _ => rfl)
 ·refine wpList_append_own _ hgd s y 64 ho B 5 i0 (.int .u8 0) 1 1 Tryd.underlying64 hi hz0 hz1 hz2 rfl (by decide) v l.length (byteVals l) hs h ⟨g, 0, none⟩ m.length cap (byteVals m) hy (by rw [byteVals_length, Nat.mul_one]) ?_ ?_ ?_ ?_ hB ?_
  ·exact World.ownsRow.cells hx rfl
  ·intro u hu
   obtain ⟨b, _, rfl⟩ := List.mem_map.1 hu
   rfl
  ·unfold maxLen; omega
  ·omega
  ·intro v' w' h2 h3 _
   refine k v' w' ?_ ?_ ?_
   ·unfold OwnB
    rw [List.length_append, show byteVals (l ++ m) = byteVals l ++ byteVals m from List.map_append]
    exact h2
   ·exact (Below.refl _ _).grown h3 hB (fun g hg => (hlt g hg).1)
   ·intro b hb hv
    exact h3.block b hb (fun e => hv e.symm)
structure Shape (α : Type) where
 tS : TypeId
 tE : TypeId
 size : Nat
 bytes : Nat
 enc : α → List Value
 zero : Value
structure Shape.Ok {α : Type} (S : Shape α) : Prop where
 under : Tryd.prog.underlying S.tS = some (.slice S.tE)
 info : (Tryd.prog.info? S.tE).map (fun i => (i.zero, i.size, i.bytes)) = some (some S.zero, S.size, S.bytes)
 zs : S.zero.cells.size = S.size
 pos : 0 < S.size
 len : ∀ x, (S.enc x).length = S.size
 one : ∀ x, ∀ u ∈ S.enc x, u.oneCell' = true
 small : S.bytes ≤ 145
def Shape.cells {α : Type} (S : Shape α) (l : List α) : List Value := l.flatMap S.enc
theorem Shape.cells_snoc {α : Type} (S : Shape α) (l : List α) (x : α) : S.cells (l ++ [x]) = S.cells l ++ S.enc x := by simp [Shape.cells]
theorem Shape.cells_append {α : Type} (S : Shape α) (l m : List α) : S.cells (l ++ m) = S.cells l ++ S.cells m := by simp [Shape.cells]
theorem Shape.cells_length {α : Type} {S : Shape α} (h : S.Ok) (l : List α) : (S.cells l).length = l.length * S.size := by
 induction l with
 | nil => simp [Shape.cells]
 | cons x l ih =>
  have e : S.cells (x :: l) = S.enc x ++ S.cells l := by simp [Shape.cells]
  rw [e, List.length_append, h.len, ih, List.length_cons, Nat.add_mul, Nat.one_mul, Nat.add_comm]
theorem Shape.cells_get {α : Type} {S : Shape α} (h : S.Ok) (l : List α) (k j : Nat) (hk : k < l.length) (hj : j < S.size) : (S.cells l)[k * S.size + j]? = (S.enc l[k])[j]? := by
 induction l generalizing k with
 | nil => simp at hk
 | cons x l ih =>
  have e : S.cells (x :: l) = S.enc x ++ S.cells l := by simp [Shape.cells]
  rw [e]
  cases k with
  | zero => rw [Nat.zero_mul, Nat.zero_add, List.getElem?_append_left (by rw [h.len]; exact hj)]; rfl
  | succ k =>
   rw [List.getElem?_append_right (by rw [h.len, Nat.add_mul]; omega), h.len]
   have e2 : (k + 1) * S.size + j - S.size = k * S.size + j := by rw [Nat.add_mul]; omega
   rw [e2, ih k (by simpa using hk)]; rfl
def OwnL {α : Type} (S : Shape α) (w : World) (B : Nat) (v : Value) (l : List α) : Prop := w.ownsRow B S.tE S.size v l.length (S.cells l)
section
variable {α : Type} {S : Shape α} {w w' : World} {B : Nat} {v : Value} {l : List α}
theorem OwnL.alloc (h : OwnL S w B v l) (o : Obj) : OwnL S (w.alloc o) B v l := World.ownsRow.alloc h o
theorem OwnL.nil (S : Shape α) (w : World) (B : Nat) : OwnL S w B (.slice none 0 0) [] := World.ownsRow_nil w B S.tE S.size
theorem OwnL.lit0 (S : Shape α) (w : World) {B : Nat} (hB : B ≤ w.heap.size) : OwnL S (w.alloc (.cells #[] S.tE)) B (.slice (some ⟨w.heap.size, 0, none⟩) 0 0) [] :=
 World.ownsRow_lit w #[] 0 hB (by unfold maxLen; omega) (by simp)
theorem OwnL.below (h : OwnL S w B v l) (hb : Below w.heap.size w w') : OwnL S w' B v l := by
 refine ⟨h.1, ?_⟩
 rcases h.2 with h2 | ⟨g, cap, cur, hv, hg, hh, r⟩
 ·exact Or.inl h2
 ·refine Or.inr ⟨g, cap, cur, hv, hg, ?_, r⟩
  have hlt : g < w.heap.size := by
   rcases Nat.lt_or_ge g w.heap.size with h | h
   ·exact h
   ·rw [Array.getElem?_eq_none h] at hh; cases hh
  rw [hb.block g hlt]; exact hh
theorem OwnL.more {B2 : Nat} (h : OwnL S w B v l) (hB : B2 ≤ B) : OwnL S w B2 v l := by
 refine ⟨h.1, ?_⟩
 rcases h.2 with h2 | ⟨g, cap, cur, hv, hg, r⟩
 ·exact Or.inl h2
 ·exact Or.inr ⟨g, cap, cur, hv, Nat.le_trans hB hg, r⟩
theorem OwnL.open_ (h : OwnL S w B v l) : ∃ A cap, v = .slice A l.length cap ∧ l.length ≤ cap ∧ cap ≤ maxLen ∧
  (∀ k j, k < l.length → j < S.size → ∃ g, A = some ⟨g, 0, none⟩ ∧ B ≤ g ∧ g < w.heap.size ∧ ∀ u, (S.cells l)[k * S.size + j]? = some u → w.cell? ⟨g, k * S.size + j, none⟩ = some u) := by
 rcases h.2 with ⟨rfl, h0⟩ | ⟨g, cap, cur, rfl, hg, hh, hn, hm, hs, ht⟩
 ·exact ⟨none, 0, by rw [h0], by omega, by unfold maxLen; omega, fun k j hk => by omega⟩
 ·refine ⟨_, cap, rfl, hn, hm, fun k j hk hj => ⟨g, rfl, hg, ?_, fun u hu => ?_⟩⟩
  ·rcases Nat.lt_or_ge g w.heap.size with h | h
   ·exact h
   ·rw [Array.getElem?_eq_none h] at hh; cases hh
  ·have hlt : k * S.size + j < l.length * S.size := by
    have : (k + 1) * S.size ≤ l.length * S.size := Nat.mul_le_mul_right _ hk
    rw [Nat.add_mul] at this; omega
   rw [World.ownsRow.cellAt h _ hlt, hu]
end
theorem OwnL.at_ {α : Type} {S : Shape α} {w : World} {B : Nat} {A : Option Addr} {n cap : Nat} {l : List α} (h : OwnL S w B (.slice A n cap) l) (hS : S.Ok) {k : Nat} (hk : k < l.length) :
  ∃ g, A = some ⟨g, 0, none⟩ ∧ ∀ j u, j < S.size → (S.enc l[k])[j]? = some u → w.cell? ⟨g, k * S.size + j, none⟩ = some u := by
 obtain ⟨A', cap', e, _, _, hc⟩ := h.open_
 injection e with e1 _ _
 subst e1
 obtain ⟨g, rfl, _, _, _⟩ := hc k 0 hk hS.pos
 refine ⟨g, rfl, fun j u hj hu => ?_⟩
 obtain ⟨g', e, _, _, h⟩ := hc k j hk hj
 cases e
 exact h u (by rw [Shape.cells_get hS l k j hk hj]; exact hu)
theorem OwnL.append {α : Type} {S : Shape α} (hS : S.Ok) {w : World} {B : Nat} {v : Value} {l : List α} (h : OwnL S w B v l) (x : α) {ops : Array Oper} {rest : List Oper} {o : Oper} {a : Act} {Q : Exit → Act → World → Prop} (hgd : o.guard = none) (s y : Operand)
  (ho : o.op = .call { callee := .builtin .append, args := #[s, y], argTypes := #[S.tS, S.tS] }) (hs : a.eval s = v) (hy : a.eval y = .slice (some ⟨w.heap.size, 0, none⟩) 1 1) (cs : Array Value) (hcs : cs = (S.enc x).toArray) (hB : B ≤ w.heap.size) (hl : l.length + 1 ≤ 970000000000)
  (k : ∀ v' w', OwnL S w' B v' (l ++ [x]) → Below B w w' → wpList Tryd.prog ops Q rest (a.put o.dst v') w') :
  wpList Tryd.prog ops Q (o :: rest) a (w.alloc (.cells cs S.tE)) := by
 subst hcs
 obtain ⟨i0, hi, hz0, hz1, hz2⟩ := info_parts hS.info
 have hlt := h.lt
 refine wpList_append_own _ hgd s y S.tS ho B S.tE i0 S.zero S.size S.bytes hS.under hi hz0 hz1 hz2 hS.zs hS.pos v l.length (S.cells l) hs (World.ownsRow.alloc h _) ⟨w.heap.size, 0, none⟩ 1 1 (S.enc x) hy (by rw [hS.len, Nat.one_mul]) ?_ (hS.one x) ?_ ?_ ?_ ?_
 ·intro j u hj
  have e : (⟨w.heap.size, 0, none⟩ : Addr).add j = ⟨w.heap.size, j, none⟩ := by unfold Addr.add; split <;> simp_all
  rw [e, World.cell?_alloc_new]
  simpa using hj
 ·unfold maxLen; omega
 ·have := hS.small
  have h1 : (l.length + 1) * S.bytes ≤ 970000000000 * 145 := Nat.mul_le_mul hl this
  omega
 ·rw [World.size_alloc]; omega
 ·intro v' w' h2 h3 _
  refine k v' w' ?_ ?_
  ·unfold OwnL
   rw [Shape.cells_snoc, List.length_append, List.length_singleton]
   exact h2
  ·exact ((Below.refl _ _).alloc hB _).grown h3 (by rw [World.size_alloc]; omega) (fun g hg => (hlt g hg).1)
theorem own_block {w : World} {base : Nat} {e : TypeId} {size n : Nat} {v : Value} {xs : List Value} (h : w.ownsRow base e size v n xs) {g : Nat} (hg : v.ownBlock = some g) : ∃ cur, w.heap[g]? = some (.cells cur e (0, 0)) := by
 rcases h.2 with ⟨rfl, _⟩ | ⟨g', cap, cur, rfl, _, hh, _⟩
 ·simp [Value.ownBlock] at hg
 ·have : g' = g := by simpa [Value.ownBlock] using hg
  subst this
  exact ⟨cur, hh⟩
theorem OwnL.keptB {α : Type} {S : Shape α} {w w' : World} {B B2 : Nat} {v u : Value} {l : List α} {m : List UInt8} (h : OwnL S w B v l) (hu : OwnB w B2 u m) (hne : S.tE ≠ 5) (hk : KeptBut w w' u) : OwnL S w' B v l := by
 refine ⟨h.1, ?_⟩
 rcases h.2 with h2 | ⟨g, cap, cur, hv, hg, hh, r⟩
 ·exact Or.inl h2
 ·refine Or.inr ⟨g, cap, cur, hv, hg, ?_, r⟩
  have hlt : g < w.heap.size := by
   rcases Nat.lt_or_ge g w.heap.size with h | h
   ·exact h
   ·rw [Array.getElem?_eq_none h] at hh; cases hh
  rw [hk g hlt ?_]
  ·exact hh
  ·intro e
   obtain ⟨cur', he⟩ := own_block hu e
   rw [hh] at he
   injection he with he
   injection he with _ ht
   exact hne ht
end Go.Proofs.YthcldpminmhgkaaDoor
namespace Go.Proofs.YthcldpminmhgkaaDoor
open Go.RowKit
def Apart (v u : Value) : Prop := ∀ g, v.ownBlock = some g → u.ownBlock ≠ some g
theorem Apart.symm {v u : Value} (h : Apart v u) : Apart u v := fun g hu hv => h g hv hu
theorem block_of_add (a : Addr) (n : Nat) : (a.add n).block = a.block := by unfold Addr.add; split <;> rfl
theorem add_of_add (a : Addr) (i j : Nat) : (a.add i).add j = a.add (i + j) := by
 unfold Addr.add
 by_cases hi : i = 0 <;> by_cases hj : j = 0 <;> simp [hi, hj, Nat.add_assoc]
def RdL {α : Type} (S : Shape α) (w : World) (B : Nat) (v : Value) (l : List α) : Prop :=
 ∃ A cap, v = .slice A l.length cap ∧ l.length ≤ cap ∧ cap ≤ maxLen ∧ (0 < l.length → ∃ a, A = some a ∧ a.block < B ∧ ∀ j u, (S.cells l)[j]? = some u → w.cell? (a.add j) = some u) ∧ (A = none → cap = 0)
section
variable {α : Type} {S : Shape α} {w w' : World} {B B' : Nat} {v : Value} {l : List α}
theorem RdL.keep (h : RdL S w B v l) (hk : ∀ p : Addr, p.block < B → w'.cell? p = w.cell? p) : RdL S w' B v l := by
 obtain ⟨A, cap, e, h1, h2, h3, h4⟩ := h
 refine ⟨A, cap, e, h1, h2, fun hn => ?_, h4⟩
 obtain ⟨a, e2, hb, hc⟩ := h3 hn
 exact ⟨a, e2, hb, fun j u hu => (hk _ (by rw [block_of_add]; exact hb)).trans (hc j u hu)⟩
theorem RdL.below (h : RdL S w B v l) (hb : Below B w w') : RdL S w' B v l := h.keep fun _ hp => hb.cell hp
theorem RdL.belowW (h : RdL S w B v l) (hB : B ≤ w.heap.size) (hb : Below w.heap.size w w') : RdL S w' B v l := h.keep fun _ hp => hb.cell (by omega)
theorem RdL.more (h : RdL S w B v l) (hB : B ≤ B') : RdL S w B' v l := by
 obtain ⟨A, cap, e, h1, h2, h3, h4⟩ := h
 refine ⟨A, cap, e, h1, h2, fun hn => ?_, h4⟩
 obtain ⟨a, e2, hb, hc⟩ := h3 hn
 exact ⟨a, e2, by omega, hc⟩
theorem RdL.alloc (h : RdL S w B v l) (hB : B ≤ w.heap.size) (o : Obj) : RdL S (w.alloc o) B v l := h.keep fun p hp => World.cell?_alloc_lt w o p (by omega)
theorem RdL.nil (S : Shape α) (w : World) (B : Nat) : RdL S w B (.slice none 0 0) [] := ⟨none, 0, rfl, by simp, by unfold maxLen; omega, fun h => (by simp at h), fun _ => rfl⟩
theorem RdL.open_ (h : RdL S w B v l) : ∃ A cap, v = .slice A l.length cap ∧ l.length ≤ cap ∧ cap ≤ maxLen := by
 obtain ⟨A, cap, e, h1, h2, _, _⟩ := h
 exact ⟨A, cap, e, h1, h2⟩
theorem RdL.at_ {A : Option Addr} {n cap : Nat} (h : RdL S w B (.slice A n cap) l) (hS : S.Ok) {k : Nat} (hk : k < l.length) :
  ∃ a, A = some a ∧ a.block < B ∧ ∀ j u, j < S.size → (S.enc l[k])[j]? = some u → w.cell? (a.add (k * S.size + j)) = some u := by
 obtain ⟨A', cap', e, h1, h2, h3, _⟩ := h
 injection e with e1 e2 e3
 subst e1
 obtain ⟨a, e4, hb, hc⟩ := h3 (by omega)
 refine ⟨a, e4, hb, fun j u hj hu => hc _ u ?_⟩
 rw [Shape.cells_get hS l k j hk hj]; exact hu
theorem add_succ (a : Addr) (n j : Nat) : a.add (n + (j + 1)) = ⟨(a.add n).block, (a.add n).off + (j + 1), none⟩ := by
 rw [← add_of_add, Addr.add, if_neg (by omega)]
theorem RdL.at2 {A : Option Addr} {n cap : Nat} (h : RdL S w B (.slice A n cap) l) (hS : S.Ok) {k : Nat} (hk : k < l.length) :
  ∃ a, A = some a ∧ (a.add (k * S.size)).block < B ∧ (∀ u, (S.enc l[k])[0]? = some u → w.cell? (a.add (k * S.size)) = some u) ∧
   ∀ j u, j + 1 < S.size → (S.enc l[k])[j + 1]? = some u → w.cell? ⟨(a.add (k * S.size)).block, (a.add (k * S.size)).off + (j + 1), none⟩ = some u := by
 obtain ⟨a, e, hb, hc⟩ := h.at_ hS hk
 exact ⟨a, e, by rw [block_of_add]; exact hb, fun u hu => hc 0 u hS.pos hu, fun j u hj hu => by rw [← add_succ]; exact hc _ u hj hu⟩
theorem RdL.of_own (h : OwnL S w B v l) : RdL S w w.heap.size v l := by
 rcases h.2 with ⟨rfl, h0⟩ | ⟨g, cap, cur, hv, hg, hh, hn, hm, _⟩
 ·have : l = [] := List.eq_nil_of_length_eq_zero h0
  subst this
  exact RdL.nil S w _
 ·subst hv
  refine ⟨_, cap, rfl, hn, hm, fun hl => ⟨_, rfl, ?_, ?_⟩, fun h => by cases h⟩
  ·show g < w.heap.size
   rcases Nat.lt_or_ge g w.heap.size with h | h
   ·exact h
   ·rw [Array.getElem?_eq_none h] at hh; cases hh
  ·intro j u hu
   exact World.ownsRow.cells h (g := g) rfl j u hu
end
section
open Go.ChangeShapes Go.WideShapes Go.Deep
variable {H : Type} {enc : TypeId × Value → H} {P : Program} {w : World} {base : Nat} {spare : Nat → Bool} {held : Bool}
end
def Blk (w : World) (g : Nat) (t : TypeId) (cs : Array Value) : Prop := w.heap[g]? = some (.cells cs t (0, 0))
section
variable {w w' : World} {g : Nat} {t : TypeId} {cs : Array Value}
theorem Blk.lt (h : Blk w g t cs) : g < w.heap.size := by
 rcases Nat.lt_or_ge g w.heap.size with hlt | hge
 ·exact hlt
 ·unfold Blk at h; rw [Array.getElem?_eq_none hge] at h; cases h
theorem Blk.cell (h : Blk w g t cs) (i : Nat) : w.cell? ⟨g, i, none⟩ = cs[i]? := cell_of_row w g i cs t (0, 0) h
theorem Blk.frozen (h : Blk w g t cs) (i : Nat) : w.frozen? ⟨g, i, none⟩ = false := by
 unfold Blk at h
 simp [World.frozen?, h]
theorem Blk.new (w : World) (t : TypeId) (cs : Array Value) : Blk (w.alloc (.cells cs t)) w.heap.size t cs := heap_alloc_new w _
theorem Blk.drew (h : Blk w g t cs) : Blk w.drew g t cs := h
theorem Blk.alloc (h : Blk w g t cs) (o : Obj) : Blk (w.alloc o) g t cs := (Below.heap_alloc w o g h.lt).trans h
theorem Blk.set_ (h : Blk w g t cs) (i : Nat) (u : Value) : Blk (w.setCell ⟨g, i, none⟩ u) g t (cs.setIfInBounds i u) := by
 unfold Blk at h ⊢
 simp [World.setCell, Array.getElem?_modify, h]
theorem Blk.far (h : Blk w g t cs) {p : Addr} (hp : g ≠ p.block) (u : Value) : Blk (w.setCell p u) g t cs := (Below.heap_setCell w p u g hp).trans h
theorem Blk.below {B : Nat} (h : Blk w g t cs) (hb : Below B w w') (hg : g < B) : Blk w' g t cs := (hb.block g hg).trans h
theorem Blk.belowW (h : Blk w g t cs) (hb : Below w.heap.size w w') : Blk w' g t cs := h.below hb h.lt
end
theorem OwnL.far {α : Type} {S : Shape α} {w : World} {B : Nat} {v : Value} {l : List α} (h : OwnL S w B v l) {p : Addr} (hp : p.block < B) (u : Value) : OwnL S (w.setCell p u) B v l := by
 refine ⟨h.1, ?_⟩
 rcases h.2 with h2 | ⟨g, cap, cur, hv, hg, hh, r⟩
 ·exact Or.inl h2
 ·exact Or.inr ⟨g, cap, cur, hv, hg, (Below.heap_setCell w p u g (by omega)).trans hh, r⟩
theorem OwnL.farNe {α : Type} {S : Shape α} {w : World} {B : Nat} {v : Value} {l : List α} (h : OwnL S w B v l) {p : Addr} (hp : ∀ g, v.ownBlock = some g → g ≠ p.block) (u : Value) : OwnL S (w.setCell p u) B v l := by
 refine ⟨h.1, ?_⟩
 rcases h.2 with h2 | ⟨g, cap, cur, hv, hg, hh, r⟩
 ·exact Or.inl h2
 ·exact Or.inr ⟨g, cap, cur, hv, hg, (Below.heap_setCell w p u g (hp g (by rw [hv]; rfl))).trans hh, r⟩
theorem below_drewN {B : Nat} {a w : World} (h : Below B a w) (n : Nat) : Below B a (w.drewN n) := ⟨h.os, h.tape, h.output, h.size, h.block⟩
theorem OwnL.keptL {α β : Type} {S : Shape α} {T : Shape β} {w w' : World} {B B2 : Nat} {v u : Value} {l : List α} {m : List β} (h : OwnL S w B v l) (hu : OwnL T w B2 u m) (hne : S.tE ≠ T.tE) (hk : KeptBut w w' u) : OwnL S w' B v l := by
 refine ⟨h.1, ?_⟩
 rcases h.2 with h2 | ⟨g, cap, cur, hv, hg, hh, r⟩
 ·exact Or.inl h2
 ·refine Or.inr ⟨g, cap, cur, hv, hg, ?_, r⟩
  have hlt : g < w.heap.size := by
   rcases Nat.lt_or_ge g w.heap.size with h | h
   ·exact h
   ·rw [Array.getElem?_eq_none h] at hh; cases hh
  rw [hk g hlt ?_]
  ·exact hh
  ·intro e
   obtain ⟨cur', he⟩ := own_block hu e
   rw [hh] at he
   injection he with he
   injection he with _ ht
   exact hne ht
theorem Blk.keptL {β : Type} {T : Shape β} {w w' : World} {B2 g : Nat} {t : TypeId} {cs : Array Value} {u : Value} {m : List β} (h : Blk w g t cs) (hu : OwnL T w B2 u m) (hne : t ≠ T.tE) (hk : KeptBut w w' u) : Blk w' g t cs := by
 unfold Blk at h ⊢
 rw [hk g (Blk.lt h) ?_]
 ·exact h
 ·intro e
  obtain ⟨cur', he⟩ := own_block hu e
  rw [h] at he
  injection he with he
  injection he with _ ht
  exact hne ht
theorem OwnL.offBlk {α : Type} {S : Shape α} {w : World} {B g : Nat} {t : TypeId} {cs : Array Value} {v : Value} {l : List α} (h : OwnL S w B v l) (hb : Blk w g t cs) (hne : t ≠ S.tE) : ∀ z, v.ownBlock = some z → z ≠ g := by
 intro z hz e
 subst e
 obtain ⟨cur', he⟩ := own_block h hz
 unfold Blk at hb
 rw [hb] at he
 injection he with he
 injection he with _ ht
 exact hne ht
theorem OwnL.keptNe {α : Type} {S : Shape α} {w w' : World} {B : Nat} {v u : Value} {l : List α} (h : OwnL S w B v l) (hk : KeptBut w w' u) (hne : ∀ g, v.ownBlock = some g → u.ownBlock ≠ some g) : OwnL S w' B v l := by
 refine ⟨h.1, ?_⟩
 rcases h.2 with h2 | ⟨g, cap, cur, hv, hg, hh, r⟩
 ·exact Or.inl h2
 ·refine Or.inr ⟨g, cap, cur, hv, hg, ?_, r⟩
  have hlt : g < w.heap.size := by
   rcases Nat.lt_or_ge g w.heap.size with h | h
   ·exact h
   ·rw [Array.getElem?_eq_none h] at hh; cases hh
  rw [hk g hlt (hne g (by rw [hv]; rfl))]
  exact hh
theorem set_size (w : World) (p : Addr) (u : Value) : (w.setCell p u).heap.size = w.heap.size := by simp [World.setCell]
theorem OwnL.form {α : Type} {S : Shape α} {w : World} {B : Nat} {v : Value} {l : List α} (h : OwnL S w B v l) : ∃ A cap, v = .slice A l.length cap ∧ l.length ≤ cap ∧ cap ≤ maxLen := by
 obtain ⟨A, cap, e, h1, h2, _⟩ := h.open_
 exact ⟨A, cap, e, h1, h2⟩
theorem OwnL.stepAppendG {α : Type} {S : Shape α} (hS : S.Ok) {w : World} {B : Nat} {v : Value} {l : List α} (h : OwnL S w B v l) (x : α) (nb : Nat) {ops : Array Oper} {o : Oper} {a : Act} {K : Act → World → Prop} {Q : Exit → Act → World → Prop} {E : Prop} (hgd : o.guard = none) (s y : Operand)
  (ho : o.op = .call { callee := .builtin .append, args := #[s, y], argTypes := #[S.tS, S.tS] }) (hs : a.eval s = v) (hy : a.eval y = .slice (some ⟨nb, 0, none⟩) 1 1) (hnb : ∀ j u, (S.enc x)[j]? = some u → w.cell? ⟨nb, j, none⟩ = some u) (hB : B ≤ w.heap.size) (hl : l.length + 1 ≤ 970000000000)
  (k : ∀ g cap w', OwnL S w' B (.slice (some ⟨g, 0, none⟩) (l.length + 1) cap) (l ++ [x]) → Below B w w' → KeptBut w w' v → (v.ownBlock = some g ∨ g = w.heap.size) → g < w'.heap.size → K (a.put o.dst (.slice (some ⟨g, 0, none⟩) (l.length + 1) cap)) w') :
  if Region.wanted o (yielded ops a.tmps) = true then Oper.wp Tryd.prog o a w K Q else E := by
 obtain ⟨i0, hi, hz0, hz1, hz2⟩ := info_parts hS.info
 have hlt := h.lt
 refine step_append_lies w hgd s y S.tS ho B S.tE i0 S.zero S.size S.bytes hS.under hi hz0 hz1 hz2 hS.zs hS.pos v l.length (S.cells l) hs h ⟨nb, 0, none⟩ 1 1 (S.enc x) hy (by rw [hS.len, Nat.one_mul]) ?_ (hS.one x) (by decide) ?_ ?_ hB w.heap.size rfl ?_
 ·intro j u hj
  rw [show (⟨nb, 0, none⟩ : Addr).add j = ⟨nb, j, none⟩ from by unfold Addr.add; split <;> simp_all]
  exact hnb j u hj
 ·unfold maxLen; omega
 ·have := hS.small
  have h2 := Nat.mul_le_mul hl this
  omega
 ·intro g2 cap2 w' h2 h3 h4 h5
  refine k g2 cap2 w' ?_ ?_ ?_ h4 h5
  ·unfold OwnL
   rw [List.length_append, Shape.cells_append, show S.cells [x] = S.enc x from by simp [Shape.cells]]
   exact h2
  ·exact (Below.refl _ _).grown h3 hB (fun g hg => (hlt g hg).1)
  ·intro b hb hv
   exact h3.block b hb (fun e => hv e.symm)
section
variable {P : Program} {md : Region.Mode} {ops : Array Oper} {Q : Exit → Act → World → Prop} {S : World → Prop} {k : Nat}
def phAny (P : Program) (md : Region.Mode) (ops : Array Oper) (Q : Exit → Act → World → Prop) (S : World → Prop) (k : Nat) : Nat → Array Bool → Act → World → Prop
 | 0, l, a, w => Region.ready md ops l = [] ∧ Q .normal a w
 | n + 1, l, a, w => (Region.ready md ops l = [] → Q .normal a w) ∧
   ∀ i, i ∈ Region.ready md ops l → wpOp P ops Q i (fun b v => ((l.setIfInBounds i true).getD k true = false → S v) ∧ phAny P md ops Q S k n (l.setIfInBounds i true) b v) a w
theorem phAny.any {n : Nat} {l : Array Bool} {a : Act} {w : World} (h : phAny P md ops Q S k n l a w) : wpAny P md ops Q n l a w := by
 induction n generalizing l a w with
 | zero => exact h
 | succ n ih => exact ⟨h.1, fun i hi => wpOp_mono (fun _ _ x => ih x.2) (h.2 i hi)⟩
def phAll (P : Program) (md : Region.Mode) (ops : Array Oper) (Q : Exit → Act → World → Prop) (S : World → Prop) (k n : Nat) (l : Array Bool) (a : Act) (w : World) (rs : List Nat) : Prop :=
 ∀ i, i ∈ rs → wpOp P ops Q i (fun b v => ((l.setIfInBounds i true).getD k true = false → S v) ∧ phAny P md ops Q S k n (l.setIfInBounds i true) b v) a w
theorem phAll.nil {n : Nat} {l : Array Bool} {a : Act} {w : World} : phAll P md ops Q S k n l a w [] := fun _ h => absurd h List.not_mem_nil
theorem phAll.cons {n : Nat} {l : Array Bool} {a : Act} {w : World} {i : Nat} {o : Oper} {rs : List Nat} (ho : ops[i]? = some o)
  (h : ∀ K : Act → World → Prop, Shut (∀ b v, ((l.setIfInBounds i true).getD k true = false → S v) → phAny P md ops Q S k n (l.setIfInBounds i true) b v → K b v) → if Region.wanted o (yielded ops a.tmps) = true then Oper.wp P o a w K Q else K (a.put o.dst undef) w)
  (hs : phAll P md ops Q S k n l a w rs) : phAll P md ops Q S k n l a w (i :: rs) := by
 intro j hj
 rcases List.mem_cons.1 hj with e | hj
 ·rw [e]; exact wpOp_step ho fun K hK => h K fun b v h1 h2 => hK b v ⟨h1, h2⟩
 ·exact hs j hj
end
end Go.Proofs.YthcldpminmhgkaaDoor
end
section
namespace Go.Proofs.YthcldpminmhgkaaDoor
open Go.RowKit Go.ChangeShapes Go.WideShapes
theorem trodAll_up {H : Type} {enc : TypeId × Value → H} {P : Program} (hl : laidOutB P = true) {W W' : World} (hb : Below W.heap.size W W') :
  ∀ {ts : List TypeId} {vs : List Value} {ds : List (DataW H)} {ps : List MemPlace}, ts.all (fun t => P.readableRec t && decide (t < P.types.size)) = true → DataW.TrodAll enc P W 0 (fun _ => true) true ts vs ds ps →
   DataW.TrodAll enc P W' 0 (fun b => decide (b < W.heap.size)) true ts vs ds ps
 | [], [], [], _, _, h => h
 | [], _ :: _, _, _, _, h => h.elim
 | [], [], _ :: _, _, _, h => h.elim
 | _ :: _, [], _, _, _, h => h.elim
 | _ :: _, _ :: _, [], _, _, h => h.elim
 | t :: ts, v :: vs, d :: ds, ps, hr, h => by
  have hlt := DataW.TrodAll.lt h
  obtain ⟨p, q, h1, h2, e⟩ := h
  subst e
  simp only [List.all_cons, Bool.and_eq_true, decide_eq_true_eq] at hr
  obtain ⟨⟨hr1, hr2⟩, hr3⟩ := hr
  refine ⟨p, q, Below.trod hl hr1 hr2 h1 hb (fun x hx => hlt x (List.mem_append_left _ hx)), trodAll_up hl hb (by simpa [List.all_eq_true] using hr3) h2, rfl⟩
theorem RdL.of_cells {α : Type} {S : Shape α} (hS : S.Ok) {w : World} {B : Nat} {a : Addr} {len cap : Nat} (hb : a.block < B) (hl : len ≤ cap) (hm : cap ≤ maxLen) (Q : Nat → α → Prop)
  (hx : ∀ i, i < len → ∃ x : α, Q i x ∧ ∀ j u, j < S.size → (S.enc x)[j]? = some u → w.cell? (a.add (i * S.size + j)) = some u) :
  ∃ l : List α, l.length = len ∧ RdL S w B (.slice (some a) len cap) l ∧ ∀ i (hi : i < l.length), Q i l[i] := by
 have key : ∀ n, n ≤ len → ∃ l : List α, l.length = n ∧ (∀ i (hi : i < l.length), Q i l[i] ∧ ∀ j u, j < S.size → (S.enc l[i])[j]? = some u → w.cell? (a.add (i * S.size + j)) = some u) := by
  intro n
  induction n with
  | zero => exact fun _ => ⟨[], rfl, fun i hi => by cases hi⟩
  | succ n ih =>
   intro hn
   obtain ⟨l, h1, h2⟩ := ih (by omega)
   obtain ⟨x, h3, h4⟩ := hx n (by omega)
   refine ⟨l ++ [x], by simp [h1], fun i hi => ?_⟩
   rcases Nat.lt_or_ge i l.length with h | h
   ·rw [List.getElem_append_left h]; exact h2 i h
   ·have e : i = n := by simp at hi; omega
    subst e
    have e2 : (l ++ [x])[i] = x := by rw [List.getElem_append_right h]; simp [h1]
    rw [e2]; exact ⟨h3, h4⟩
 obtain ⟨l, h1, h2⟩ := key len (Nat.le_refl _)
 refine ⟨l, h1, ⟨some a, cap, by rw [h1], by omega, hm, fun _ => ⟨a, rfl, hb, fun j u hu => ?_⟩, fun h => by cases h⟩, fun i hi => (h2 i hi).1⟩
 have hlen := Shape.cells_length hS l
 have hj : j < (S.cells l).length := (List.getElem?_eq_some_iff.1 hu).1
 rw [hlen] at hj
 have hp := hS.pos
 have hk : j / S.size < l.length := Nat.div_lt_of_lt_mul (by rw [Nat.mul_comm]; exact hj)
 have hm2 : j % S.size < S.size := Nat.mod_lt _ hp
 have e : j = (j / S.size) * S.size + j % S.size := by rw [Nat.mul_comm]; exact (Nat.div_add_mod j S.size).symm
 rw [e] at hu ⊢
 rw [Shape.cells_get hS l _ _ hk hm2] at hu
 exact (h2 _ hk).2 _ u hm2 hu
end Go.Proofs.YthcldpminmhgkaaDoor
end
section
namespace Go.Proofs.YthcldpminmhgkaaDoor
open Go.RowKit Go.ChangeShapes Go.WideShapes Go.Deep
theorem OwnL.appendRd {α : Type} {S : Shape α} (hS : S.Ok) {w : World} {B C : Nat} {v x : Value} {l m : List α} (h : OwnL S w B v l) (hx : RdL S w C x m) {ops : Array Oper} {rest : List Oper} {o : Oper} {a : Act} {Q : Exit → Act → World → Prop} (hgd : o.guard = none) (s y : Operand)
  (ho : o.op = .call { callee := .builtin .append, args := #[s, y], argTypes := #[S.tS, S.tS] }) (hs : a.eval s = v) (hy : a.eval y = x) (hB : B ≤ w.heap.size) (hl : l.length + m.length ≤ 970000000000)
  (k : ∀ v' w', OwnL S w' B v' (l ++ m) → Below B w w' → wpList Tryd.prog ops Q rest (a.put o.dst v') w') :
  wpList Tryd.prog ops Q (o :: rest) a w := by
 obtain ⟨i0, hi, hz0, hz1, hz2⟩ := info_parts hS.info
 have hlt := h.lt
 obtain ⟨A, cap, rfl, h1, h2, h3, h4⟩ := hx
 cases A with
 | none =>
  have e : m = [] := by
   rcases Nat.eq_zero_or_pos m.length with h0 | h0
   ·exact List.eq_nil_of_length_eq_zero h0
   ·obtain ⟨_, e, _⟩ := h3 h0; cases e
  subst e
  rw [h4 rfl] at hy
  refine wpList_append_own_none hgd s y S.tS ho B S.tE i0 S.size hS.under hi v l.length (S.cells l) hs h hy ?_
  exact k v w (by rw [List.append_nil]; exact h) (Below.refl _ _)
 | some ad =>
  have hc : ∀ j u, (S.cells m)[j]? = some u → w.cell? (ad.add j) = some u := by
   intro j u hu
   rcases Nat.eq_zero_or_pos m.length with h0 | h0
   ·rw [List.eq_nil_of_length_eq_zero h0] at hu; simp [Shape.cells] at hu
   ·obtain ⟨a', e, _, hc⟩ := h3 h0
    cases e
    exact hc j u hu
  refine wpList_append_own _ hgd s y S.tS ho B S.tE i0 S.zero S.size S.bytes hS.under hi hz0 hz1 hz2 hS.zs hS.pos v l.length (S.cells l) hs h ad m.length cap (S.cells m) hy (Shape.cells_length hS m) hc ?_ ?_ ?_ hB ?_
  ·intro u hu
   obtain ⟨x, _, hx⟩ := List.mem_flatMap.1 hu
   exact hS.one x u hx
  ·unfold maxLen; omega
  ·have := hS.small
   have h1 : (l.length + m.length) * S.bytes ≤ 970000000000 * 145 := Nat.mul_le_mul hl this
   omega
  ·intro v' w' h2 h3 _
   refine k v' w' ?_ ?_
   ·unfold OwnL
    rw [Shape.cells_append, List.length_append]
    exact h2
   ·exact (Below.refl _ _).grown h3 hB (fun g hg => (hlt g hg).1)
end Go.Proofs.YthcldpminmhgkaaDoor
end
