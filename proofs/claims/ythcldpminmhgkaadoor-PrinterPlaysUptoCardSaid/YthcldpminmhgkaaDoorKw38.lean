/- Merged for a claim by shake.py: Jbo Jbq -/
import Derived.Test.YthcldpminmhgkaaDoorKwA
import Derived.Test.YthcldpminmhgkaaDoorKw2
import Derived.Test.YthcldpminmhgkaaDoorKw37
set_option maxRecDepth 100000
set_option maxHeartbeats 4000000
set_option linter.unusedSimpArgs false
set_option linter.unusedVariables false
section
namespace Go.Proofs.YthcldpminmhgkaaDoor
open Go.RowKit
def regOf (k : Nat) : Code → Option Code
 | .region id ops d => if id = k then some (.region id ops d) else none
 | .seq a b => match regOf k a with
  | some c => some c
  | none => regOf k b
 | .block _ c => regOf k c
 | .scope c => regOf k c
 | .cond _ a b => match regOf k a with
  | some c => some c
  | none => regOf k b
 | .loop c => regOf k c
 | _ => none
noncomputable def prg (k : Nat) : Code := ((Tryd.f3.body.bind (regOf k)).getD .skip)
def ro0 : Oper := { dst := some 18, op := Op.load 27 (Operand.tmp 2), type := 27, pos := "law.go:76", after := #[], guard := none }
def ro1 : Oper := { dst := some 19, op := Op.call { callee := Callee.value (Operand.func 11), args := #[Operand.tmp 18], argTypes := #[27] }, type := 27, pos := "law.go:76", after := #[{ on := 0, ground := Ground.data }], guard := none }
def ro2 : Oper := { dst := some 20, op := Op.load 27 (Operand.tmp 3), type := 27, pos := "law.go:76", after := #[], guard := none }
def ro3 : Oper := { dst := some 21, op := Op.call { callee := Callee.value (Operand.func 11), args := #[Operand.tmp 20], argTypes := #[27] }, type := 27, pos := "law.go:76", after := #[{ on := 2, ground := Ground.data }, { on := 1, ground := Ground.chain }], guard := none }
def ro4 : Oper := { dst := some 5, op := Op.alloc 27, type := 0, pos := "law.go:76", after := #[], guard := none }
def ro5 : Oper := { dst := some 6, op := Op.alloc 27, type := 0, pos := "law.go:76", after := #[], guard := none }
def ro6 : Oper := { dst := none, op := Op.store 27 (Operand.tmp 5) (Operand.tmp 19), type := 0, pos := "law.go:76", after := #[{ on := 4, ground := Ground.data }, { on := 1, ground := Ground.data }, { on := 3, ground := Ground.chain }, { on := 0, ground := Ground.phase }, { on := 1, ground := Ground.phase }, { on := 2, ground := Ground.textOnly Departure.lateStores }, { on := 3, ground := Ground.textOnly Departure.lateStoresUnsure }, { on := 4, ground := Ground.phase }, { on := 5, ground := Ground.phase }], guard := none }
def ro7 : Oper := { dst := none, op := Op.store 27 (Operand.tmp 6) (Operand.tmp 21), type := 0, pos := "law.go:76", after := #[{ on := 5, ground := Ground.data }, { on := 3, ground := Ground.data }, { on := 6, ground := Ground.chain }, { on := 0, ground := Ground.phase }, { on := 1, ground := Ground.phase }, { on := 2, ground := Ground.phase }, { on := 3, ground := Ground.phase }, { on := 4, ground := Ground.phase }, { on := 5, ground := Ground.phase }, { on := 6, ground := Ground.phase }], guard := none }
def r5 : Array Oper := #[ro0, ro1, ro2, ro3, ro4, ro5, ro6, ro7]
theorem r5_o0 : r5[0]? = some ro0 := rfl
theorem r5_o1 : r5[1]? = some ro1 := rfl
theorem r5_o2 : r5[2]? = some ro2 := rfl
theorem r5_o3 : r5[3]? = some ro3 := rfl
theorem r5_o4 : r5[4]? = some ro4 := rfl
theorem r5_o5 : r5[5]? = some ro5 := rfl
theorem r5_o6 : r5[6]? = some ro6 := rfl
theorem r5_o7 : r5[7]? = some ro7 := rfl
theorem prg5 : prg 5 = .region 5 r5 true := by kernel_rfl
theorem r5_size : r5.size = 8 := by kernel_rfl
theorem r5_ready : ∀ b0 b1 b2 b3 b4 b5 b6 b7 : Bool, ((Region.ready .any r5 #[b0, b1, b2, b3, b4, b5, b6, b7]).all fun i => (i == 0 && !b0) || (i == 1 && !b1 && b0) || (i == 2 && !b2) || (i == 3 && !b3 && b2) || (i == 4 && !b4) || (i == 5 && !b5) || (i == 6 && !b6 && b4 && b1) || (i == 7 && !b7 && b5 && b3)) = true := by decide +kernel
theorem r5_end : ∀ b0 b1 b2 b3 b4 b5 b6 b7 : Bool, (!(Region.ready .any r5 #[b0, b1, b2, b3, b4, b5, b6, b7]).isEmpty || (b0 && b1 && b2 && b3 && b4 && b5 && b6 && b7)) = true := by decide +kernel
def put6 (a : Act) (v5 v6 x18 x19 x20 x21 : Value) : Act := { a with tmps := (((((a.tmps.setIfInBounds 5 v5).setIfInBounds 6 v6).setIfInBounds 18 x18).setIfInBounds 19 x19).setIfInBounds 20 x20).setIfInBounds 21 x21 }
section
variable {a : Act} {v5 v6 x18 x19 x20 x21 v : Value}
theorem put6_5 : (put6 a v5 v6 x18 x19 x20 x21).put (some 5) v = put6 a v v6 x18 x19 x20 x21 := by
 unfold put6 Act.put
 simp only [Act.mk.injEq, and_true]
 apply Array.ext_getElem?
 intro i
 simp only [Array.getElem?_setIfInBounds, Array.size_setIfInBounds]
 rcases Nat.decEq i 5 with h | h
 ·have : ¬ 5 = i := fun e => h e.symm
  simp only [this, if_false]
 ·subst h; simp
theorem get6_5 (ha : a.tmps.size = 67) : (put6 a v5 v6 x18 x19 x20 x21).tmps.getD 5 undef = v5 := by
 simp [put6, Array.getD_eq_getD_getElem?, Array.getElem?_setIfInBounds, ha]
theorem put6_6 : (put6 a v5 v6 x18 x19 x20 x21).put (some 6) v = put6 a v5 v x18 x19 x20 x21 := by
 unfold put6 Act.put
 simp only [Act.mk.injEq, and_true]
 apply Array.ext_getElem?
 intro i
 simp only [Array.getElem?_setIfInBounds, Array.size_setIfInBounds]
 rcases Nat.decEq i 6 with h | h
 ·have : ¬ 6 = i := fun e => h e.symm
  simp only [this, if_false]
 ·subst h; simp
theorem get6_6 (ha : a.tmps.size = 67) : (put6 a v5 v6 x18 x19 x20 x21).tmps.getD 6 undef = v6 := by
 simp [put6, Array.getD_eq_getD_getElem?, Array.getElem?_setIfInBounds, ha]
theorem put6_18 : (put6 a v5 v6 x18 x19 x20 x21).put (some 18) v = put6 a v5 v6 v x19 x20 x21 := by
 unfold put6 Act.put
 simp only [Act.mk.injEq, and_true]
 apply Array.ext_getElem?
 intro i
 simp only [Array.getElem?_setIfInBounds, Array.size_setIfInBounds]
 rcases Nat.decEq i 18 with h | h
 ·have : ¬ 18 = i := fun e => h e.symm
  simp only [this, if_false]
 ·subst h; simp
theorem get6_18 (ha : a.tmps.size = 67) : (put6 a v5 v6 x18 x19 x20 x21).tmps.getD 18 undef = x18 := by
 simp [put6, Array.getD_eq_getD_getElem?, Array.getElem?_setIfInBounds, ha]
theorem put6_19 : (put6 a v5 v6 x18 x19 x20 x21).put (some 19) v = put6 a v5 v6 x18 v x20 x21 := by
 unfold put6 Act.put
 simp only [Act.mk.injEq, and_true]
 apply Array.ext_getElem?
 intro i
 simp only [Array.getElem?_setIfInBounds, Array.size_setIfInBounds]
 rcases Nat.decEq i 19 with h | h
 ·have : ¬ 19 = i := fun e => h e.symm
  simp only [this, if_false]
 ·subst h; simp
theorem get6_19 (ha : a.tmps.size = 67) : (put6 a v5 v6 x18 x19 x20 x21).tmps.getD 19 undef = x19 := by
 simp [put6, Array.getD_eq_getD_getElem?, Array.getElem?_setIfInBounds, ha]
theorem put6_20 : (put6 a v5 v6 x18 x19 x20 x21).put (some 20) v = put6 a v5 v6 x18 x19 v x21 := by
 unfold put6 Act.put
 simp only [Act.mk.injEq, and_true]
 apply Array.ext_getElem?
 intro i
 simp only [Array.getElem?_setIfInBounds, Array.size_setIfInBounds]
 rcases Nat.decEq i 20 with h | h
 ·have : ¬ 20 = i := fun e => h e.symm
  simp only [this, if_false]
 ·subst h; simp
theorem get6_20 (ha : a.tmps.size = 67) : (put6 a v5 v6 x18 x19 x20 x21).tmps.getD 20 undef = x20 := by
 simp [put6, Array.getD_eq_getD_getElem?, Array.getElem?_setIfInBounds, ha]
theorem put6_21 : (put6 a v5 v6 x18 x19 x20 x21).put (some 21) v = put6 a v5 v6 x18 x19 x20 v := by
 unfold put6 Act.put
 simp only [Act.mk.injEq, and_true]
 apply Array.ext_getElem?
 intro i
 simp only [Array.getElem?_setIfInBounds, Array.size_setIfInBounds]
 rcases Nat.decEq i 21 with h | h
 ·have : ¬ 21 = i := fun e => h e.symm
  simp only [this, if_false]
 ·subst h; simp
theorem get6_21 (ha : a.tmps.size = 67) : (put6 a v5 v6 x18 x19 x20 x21).tmps.getD 21 undef = x21 := by
 simp [put6, Array.getD_eq_getD_getElem?, Array.getElem?_setIfInBounds, ha]
theorem get6_2 {z : Value} (h : a.tmps.getD 2 undef = z) : (put6 a v5 v6 x18 x19 x20 x21).tmps.getD 2 undef = z := by
 rw [← h]
 simp [put6, Array.getD_eq_getD_getElem?, Array.getElem?_setIfInBounds]
theorem get6_3 {z : Value} (h : a.tmps.getD 3 undef = z) : (put6 a v5 v6 x18 x19 x20 x21).tmps.getD 3 undef = z := by
 rw [← h]
 simp [put6, Array.getD_eq_getD_getElem?, Array.getElem?_setIfInBounds]
end
theorem put6_self (a : Act) : a = put6 a (a.tmps.getD 5 undef) (a.tmps.getD 6 undef) (a.tmps.getD 18 undef) (a.tmps.getD 19 undef) (a.tmps.getD 20 undef) (a.tmps.getD 21 undef) := by
 have hs : ∀ (l : Array Value) (i : Nat), l.setIfInBounds i (l.getD i undef) = l := by
  intro l i
  apply Array.ext_getElem?
  intro j
  rw [Array.getElem?_setIfInBounds]
  split
  ·rename_i h; subst h
   split
   ·rename_i h; simp [Array.getD, h]
   ·rename_i h; rw [Array.getElem?_eq_none (Nat.le_of_not_lt h)]
  ·rfl
 obtain ⟨l, d⟩ := a
 unfold put6
 simp only [hs]
def TwoR (t u : Nd) (wb : World) (v5 v6 : Value) (wx : World) : Prop := ∃ (g5 g6 : Nat) (x y : NV), v5 = .pointer (some ⟨g5, 0, none⟩) ∧ v6 = .pointer (some ⟨g6, 0, none⟩) ∧ Below wb.heap.size wb wx ∧ Blk wx g5 27 x.cells.toArray ∧ Blk wx g6 27 y.cells.toArray ∧ NdR wx (fun _ => True) x t ∧ NdR wx (fun _ => True) y u
structure PlI (t u : Nd) (wb : World) (a0 : Act) (x y : NV) (b0 b1 b2 b3 b4 b5 b6 b7 : Bool) (v5 v6 x18 x19 x20 x21 : Value) (g5 g6 : Nat) (X Y Z5 Z6 : NV) (F G : Nat → Prop) (w : World) : Prop where
 bel : Below wb.heap.size wb w
 l1 : b0 = true → x18 = x.val
 l2 : b2 = true → x20 = y.val
 c1 : b1 = true → x19 = X.val ∧ NdR w F X t ∧ ∀ b, F b → b < w.heap.size
 c2 : b3 = true → x21 = Y.val ∧ NdR w G Y u ∧ ∀ b, G b → b < w.heap.size
 a5 : b4 = true → v5 = .pointer (some ⟨g5, 0, none⟩) ∧ wb.heap.size ≤ g5 ∧ Blk w g5 27 Z5.cells.toArray
 a6 : b5 = true → v6 = .pointer (some ⟨g6, 0, none⟩) ∧ wb.heap.size ≤ g6 ∧ Blk w g6 27 Z6.cells.toArray
 ne : b4 = true → b5 = true → g5 ≠ g6
 f5 : b4 = true → b1 = true → ∀ b, F b → b ≠ g5
 f6 : b5 = true → b1 = true → ∀ b, F b → b ≠ g6
 h5 : b4 = true → b3 = true → ∀ b, G b → b ≠ g5
 h6 : b5 = true → b3 = true → ∀ b, G b → b ≠ g6
 s5 : b6 = true → b4 = true ∧ b1 = true ∧ Z5 = X
 s6 : b7 = true → b5 = true ∧ b3 = true ∧ Z6 = Y
def PlInv (t u : Nd) (wb : World) (a0 : Act) (x y : NV) (l : Array Bool) (a : Act) (w : World) : Prop := ∃ (b0 b1 b2 b3 b4 b5 b6 b7 : Bool) (v5 v6 x18 x19 x20 x21 : Value) (g5 g6 : Nat) (X Y Z5 Z6 : NV) (F G : Nat → Prop),
 l = #[b0, b1, b2, b3, b4, b5, b6, b7] ∧ a = put6 a0 v5 v6 x18 x19 x20 x21 ∧ PlI t u wb a0 x y b0 b1 b2 b3 b4 b5 b6 b7 v5 v6 x18 x19 x20 x21 g5 g6 X Y Z5 Z6 F G w
def zNV : NV := ⟨0, [], [], 0, bd0, bd0, ⟨none, 0, 0⟩, ⟨none, 0, 0⟩⟩
section
variable {t u : Nd} {wb w : World} {a0 : Act} {x y : NV} {b0 b1 b2 b3 b4 b5 b6 b7 : Bool} {v5 v6 x18 x19 x20 x21 : Value} {g5 g6 : Nat} {X Y Z5 Z6 : NV} {F G : Nat → Prop}
abbrev PlG (t u : Nd) (wb : World) (a0 : Act) (x y : NV) (b0 b1 b2 b3 b4 b5 b6 b7 : Bool) (v5 v6 x18 x19 x20 x21 : Value) (w : World) : Prop := ∃ (g5 g6 : Nat) (X Y Z5 Z6 : NV) (F G : Nat → Prop), PlI t u wb a0 x y b0 b1 b2 b3 b4 b5 b6 b7 v5 v6 x18 x19 x20 x21 g5 g6 X Y Z5 Z6 F G w
theorem PlI.up (h : PlI t u wb a0 x y b0 b1 b2 b3 b4 b5 b6 b7 v5 v6 x18 x19 x20 x21 g5 g6 X Y Z5 Z6 F G w) {w' : World} (hb : Below w.heap.size w w') : PlI t u wb a0 x y b0 b1 b2 b3 b4 b5 b6 b7 v5 v6 x18 x19 x20 x21 g5 g6 X Y Z5 Z6 F G w' :=
 { h with
  bel := h.bel.trans (hb.mono h.bel.size)
  c1 := fun e => ⟨(h.c1 e).1, (h.c1 e).2.1.belowW hb, fun b hF => Nat.lt_of_lt_of_le ((h.c1 e).2.2 b hF) hb.size⟩
  c2 := fun e => ⟨(h.c2 e).1, (h.c2 e).2.1.belowW hb, fun b hF => Nat.lt_of_lt_of_le ((h.c2 e).2.2 b hF) hb.size⟩
  a5 := fun e => ⟨(h.a5 e).1, (h.a5 e).2.1, (h.a5 e).2.2.belowW hb⟩
  a6 := fun e => ⟨(h.a6 e).1, (h.a6 e).2.1, (h.a6 e).2.2.belowW hb⟩ }
theorem PlI.load1 (h : PlI t u wb a0 x y false b1 b2 b3 b4 b5 b6 b7 v5 v6 x18 x19 x20 x21 g5 g6 X Y Z5 Z6 F G w) : PlG t u wb a0 x y true b1 b2 b3 b4 b5 b6 b7 v5 v6 x.val x19 x20 x21 w :=
 ⟨g5, g6, X, Y, Z5, Z6, F, G, { h with l1 := fun _ => rfl }⟩
theorem PlI.load2 (h : PlI t u wb a0 x y b0 b1 false b3 b4 b5 b6 b7 v5 v6 x18 x19 x20 x21 g5 g6 X Y Z5 Z6 F G w) : PlG t u wb a0 x y b0 b1 true b3 b4 b5 b6 b7 v5 v6 x18 x19 y.val x21 w :=
 ⟨g5, g6, X, Y, Z5, Z6, F, G, { h with l2 := fun _ => rfl }⟩
theorem PlI.call1 (h : PlI t u wb a0 x y b0 false b2 b3 b4 b5 b6 b7 v5 v6 x18 x19 x20 x21 g5 g6 X Y Z5 Z6 F G w) {w' : World} (hb : Below w.heap.size w w') {X' : NV} (hX : NdR w' (rng w.heap.size w'.heap.size) X' t) : PlG t u wb a0 x y b0 true b2 b3 b4 b5 b6 b7 v5 v6 x18 X'.val x20 x21 w' := by
 have h2 := h.up hb
 exact ⟨g5, g6, X', Y, Z5, Z6, rng w.heap.size w'.heap.size, G, { h2 with
  c1 := fun _ => ⟨rfl, hX, fun b hF => hF.2⟩
  f5 := fun e _ b hF hbe => by have h3 := (h.a5 e).2.2.lt; have h4 := hF.1; omega
  f6 := fun e _ b hF hbe => by have h3 := (h.a6 e).2.2.lt; have h4 := hF.1; omega
  s5 := fun e => by have := (h.s5 e).2.1; cases this }⟩
theorem PlI.call2 (h : PlI t u wb a0 x y b0 b1 b2 false b4 b5 b6 b7 v5 v6 x18 x19 x20 x21 g5 g6 X Y Z5 Z6 F G w) {w' : World} (hb : Below w.heap.size w w') {X' : NV} (hX : NdR w' (rng w.heap.size w'.heap.size) X' u) : PlG t u wb a0 x y b0 b1 b2 true b4 b5 b6 b7 v5 v6 x18 x19 x20 X'.val w' := by
 have h2 := h.up hb
 exact ⟨g5, g6, X, X', Z5, Z6, F, rng w.heap.size w'.heap.size, { h2 with
  c2 := fun _ => ⟨rfl, hX, fun b hF => hF.2⟩
  h5 := fun e _ b hF hbe => by have h3 := (h.a5 e).2.2.lt; have h4 := hF.1; omega
  h6 := fun e _ b hF hbe => by have h3 := (h.a6 e).2.2.lt; have h4 := hF.1; omega
  s6 := fun e => by have := (h.s6 e).2.1; cases this }⟩
theorem PlI.alloc1 (h : PlI t u wb a0 x y b0 b1 b2 b3 false b5 b6 b7 v5 v6 x18 x19 x20 x21 g5 g6 X Y Z5 Z6 F G w) : PlG t u wb a0 x y b0 b1 b2 b3 true b5 b6 b7 (.pointer (some ⟨w.heap.size, 0, none⟩)) v6 x18 x19 x20 x21 (w.alloc (.cells zNV.cells.toArray 27)) := by
 have h2 := h.up ((Below.refl w.heap.size w).alloc (Nat.le_refl _) (.cells zNV.cells.toArray 27))
 exact ⟨w.heap.size, g6, X, Y, zNV, Z6, F, G, { h2 with
  a5 := fun _ => ⟨rfl, h.bel.size, Blk.new w _ _⟩
  ne := fun _ e hh => by have h3 := (h.a6 e).2.2.lt; omega
  f5 := fun _ e b hF hbe => by have h3 := (h.c1 e).2.2 b hF; omega
  h5 := fun _ e b hF hbe => by have h3 := (h.c2 e).2.2 b hF; omega
  s5 := fun e => by have := (h.s5 e).1; cases this }⟩
theorem PlI.alloc2 (h : PlI t u wb a0 x y b0 b1 b2 b3 b4 false b6 b7 v5 v6 x18 x19 x20 x21 g5 g6 X Y Z5 Z6 F G w) : PlG t u wb a0 x y b0 b1 b2 b3 b4 true b6 b7 v5 (.pointer (some ⟨w.heap.size, 0, none⟩)) x18 x19 x20 x21 (w.alloc (.cells zNV.cells.toArray 27)) := by
 have h2 := h.up ((Below.refl w.heap.size w).alloc (Nat.le_refl _) (.cells zNV.cells.toArray 27))
 exact ⟨g5, w.heap.size, X, Y, Z5, zNV, F, G, { h2 with
  a6 := fun _ => ⟨rfl, h.bel.size, Blk.new w _ _⟩
  ne := fun e _ hh => by have h3 := (h.a5 e).2.2.lt; omega
  f6 := fun _ e b hF hbe => by have h3 := (h.c1 e).2.2 b hF; omega
  h6 := fun _ e b hF hbe => by have h3 := (h.c2 e).2.2 b hF; omega
  s6 := fun e => by have := (h.s6 e).1; cases this }⟩
theorem PlI.store1 (h : PlI t u wb a0 x y b0 true b2 b3 true b5 false b7 v5 v6 x18 x19 x20 x21 g5 g6 X Y Z5 Z6 F G w) : PlG t u wb a0 x y b0 true b2 b3 true b5 true b7 v5 v6 x18 x19 x20 x21 (set12 w g5 X) := by
 have hs : (set12 w g5 X).heap.size = w.heap.size := set12_size
 have hc := h.c1 rfl
 have ha := h.a5 rfl
 refine ⟨g5, g6, X, Y, X, Z6, F, G, { h with
  bel := set12_bel h.bel ha.2.1
  c1 := fun _ => ⟨hc.1, hc.2.1.set12 (y := X) (h.f5 rfl rfl), fun b hF => by rw [hs]; exact hc.2.2 b hF⟩
  c2 := fun e => ⟨(h.c2 e).1, (h.c2 e).2.1.set12 (y := X) (h.h5 rfl e), fun b hF => by rw [hs]; exact (h.c2 e).2.2 b hF⟩
  a5 := fun _ => ⟨ha.1, ha.2.1, Blk.set12 (y := X) ha.2.2⟩
  a6 := fun e => ⟨(h.a6 e).1, (h.a6 e).2.1, (h.a6 e).2.2.off12 (Ne.symm (h.ne rfl e))⟩
  s5 := fun _ => ⟨rfl, rfl, rfl⟩ }⟩
theorem PlI.store2 (h : PlI t u wb a0 x y b0 b1 b2 true b4 true b6 false v5 v6 x18 x19 x20 x21 g5 g6 X Y Z5 Z6 F G w) : PlG t u wb a0 x y b0 b1 b2 true b4 true b6 true v5 v6 x18 x19 x20 x21 (set12 w g6 Y) := by
 have hs : (set12 w g6 Y).heap.size = w.heap.size := set12_size
 have hc := h.c2 rfl
 have ha := h.a6 rfl
 refine ⟨g5, g6, X, Y, Z5, Y, F, G, { h with
  bel := set12_bel h.bel ha.2.1
  c1 := fun e => ⟨(h.c1 e).1, (h.c1 e).2.1.set12 (y := Y) (h.f6 rfl e), fun b hF => by rw [hs]; exact (h.c1 e).2.2 b hF⟩
  c2 := fun _ => ⟨hc.1, hc.2.1.set12 (y := Y) (h.h6 rfl rfl), fun b hF => by rw [hs]; exact hc.2.2 b hF⟩
  a5 := fun e => ⟨(h.a5 e).1, (h.a5 e).2.1, (h.a5 e).2.2.off12 (h.ne e rfl)⟩
  a6 := fun _ => ⟨ha.1, ha.2.1, Blk.set12 (y := Y) ha.2.2⟩
  s6 := fun _ => ⟨rfl, rfl, rfl⟩ }⟩
theorem PlG.inv (h : PlG t u wb a0 x y b0 b1 b2 b3 b4 b5 b6 b7 v5 v6 x18 x19 x20 x21 w) {l : Array Bool} {a : Act} (hl : l = #[b0, b1, b2, b3, b4, b5, b6, b7]) (ha : a = put6 a0 v5 v6 x18 x19 x20 x21) : PlInv t u wb a0 x y l a w := by
 obtain ⟨g5, g6, X, Y, Z5, Z6, F, G, h⟩ := h
 exact ⟨b0, b1, b2, b3, b4, b5, b6, b7, v5, v6, x18, x19, x20, x21, g5, g6, X, Y, Z5, Z6, F, G, hl, ha, h⟩
theorem PlI.fin (h : PlI t u wb a0 x y true true true true true true true true v5 v6 x18 x19 x20 x21 g5 g6 X Y Z5 Z6 F G w) : TwoR t u wb v5 v6 w := by
 obtain ⟨-, -, e1⟩ := h.s5 rfl
 obtain ⟨-, -, e2⟩ := h.s6 rfl
 refine ⟨g5, g6, X, Y, (h.a5 rfl).1, (h.a6 rfl).1, h.bel, ?_, ?_, (h.c1 rfl).2.1.mono fun _ _ => trivial, (h.c2 rfl).2.1.mono fun _ _ => trivial⟩
 ·rw [← e1]; exact (h.a5 rfl).2.2
 ·rw [← e2]; exact (h.a6 rfl).2.2
end
theorem plays_s0 {Q : Exit → Act → World → Prop} {t u : Nd} {wb w : World} {a0 : Act} {x y : NV} {b1 : Bool} {b2 : Bool} {b3 : Bool} {b4 : Bool} {b5 : Bool} {b6 : Bool} {b7 : Bool} {v5 v6 x18 x19 x20 x21 : Value} {g5 g6 : Nat} {X Y Z5 Z6 : NV} {F G : Nat → Prop} {gN gM : Nat} {Fx Fy : Nat → Prop} (hsz : a0.tmps.size = 67) (h2 : a0.tmps.getD 2 undef = .pointer (some ⟨gN, 0, none⟩)) (h3 : a0.tmps.getD 3 undef = .pointer (some ⟨gM, 0, none⟩))
  (hN : Blk wb gN 27 x.cells.toArray) (hM : Blk wb gM 27 y.cells.toArray) (hX : NdR wb Fx x t) (hY : NdR wb Fy y u) (hbt : bkN t ≤ 300000000000) (hbu : bkN u ≤ 300000000000) (h : PlI t u wb a0 x y false b1 b2 b3 b4 b5 b6 b7 v5 v6 x18 x19 x20 x21 g5 g6 X Y Z5 Z6 F G w) :
  wpOp Tryd.prog r5 Q 0 (PlInv t u wb a0 x y #[true, b1, b2, b3, b4, b5, b6, b7]) (put6 a0 v5 v6 x18 x19 x20 x21) w := by
 have e2 := get6_2 (v5 := v5) (v6 := v6) (x18 := x18) (x19 := x19) (x20 := x20) (x21 := x21) h2
 have HI := LH h
 clear h
 refine wpOp_step r5_o0 fun K hK => ?_
 unfold ro0
 obtain ⟨kdN, flN, txN, xnN, ⟨laN, lbN, lcN⟩, ⟨raN, rbN, rcN⟩, ⟨oaN, onN, ocN⟩, ⟨kaN, knN, kcN⟩⟩ := x
 have hW := HI.out.bel
 have nzz := (show Blk w gN 27 #[.int .i64 kdN, .string (str flN), .string (str txN), .int .i64 xnN, .bool laN, .bool lbN, .string (str lcN), .bool raN, .bool rbN, .string (str rcN), .slice oaN onN ocN, .slice kaN knN kcN] from hN.belowW hW)
 have n0 := nzz.cell 0
 have n1 := nzz.cell 1
 have n2 := nzz.cell 2
 have n3 := nzz.cell 3
 have n4 := nzz.cell 4
 have n5 := nzz.cell 5
 have n6 := nzz.cell 6
 have n7 := nzz.cell 7
 have n8 := nzz.cell 8
 have n9 := nzz.cell 9
 have n10 := nzz.cell 10
 have n11 := nzz.cell 11
 have ln := nzz.lt
 simp only [List.getElem?_toArray, List.getElem?_cons_zero, List.getElem?_cons_succ] at n0 n1 n2 n3 n4 n5 n6 n7 n8 n9 n10 n11
 clear nzz
 go_simp
 exact hK _ _ (PlG.inv HI.out.load1 rfl put6_18)
theorem plays_s1 {Q : Exit → Act → World → Prop} {t u : Nd} {wb w : World} {a0 : Act} {x y : NV} {b2 : Bool} {b3 : Bool} {b4 : Bool} {b5 : Bool} {b6 : Bool} {b7 : Bool} {v5 v6 x18 x19 x20 x21 : Value} {g5 g6 : Nat} {X Y Z5 Z6 : NV} {F G : Nat → Prop} {gN gM : Nat} {Fx Fy : Nat → Prop} (hsz : a0.tmps.size = 67) (h2 : a0.tmps.getD 2 undef = .pointer (some ⟨gN, 0, none⟩)) (h3 : a0.tmps.getD 3 undef = .pointer (some ⟨gM, 0, none⟩))
  (hN : Blk wb gN 27 x.cells.toArray) (hM : Blk wb gM 27 y.cells.toArray) (hX : NdR wb Fx x t) (hY : NdR wb Fy y u) (hbt : bkN t ≤ 300000000000) (hbu : bkN u ≤ 300000000000) (h : PlI t u wb a0 x y true false b2 b3 b4 b5 b6 b7 v5 v6 x18 x19 x20 x21 g5 g6 X Y Z5 Z6 F G w) :
  wpOp Tryd.prog r5 Q 1 (PlInv t u wb a0 x y #[true, true, b2, b3, b4, b5, b6, b7]) (put6 a0 v5 v6 x18 x19 x20 x21) w := by
 have e18 := get6_18 (v5 := v5) (v6 := v6) (x18 := x18) (x19 := x19) (x20 := x20) (x21 := x21) hsz
 have HI := LH h
 clear h
 refine wpOp_step r5_o1 fun K hK => ?_
 unfold ro1
 have hl := HI.out.l1 rfl
 subst hl
 obtain ⟨kdN, flN, txN, xnN, ⟨laN, lbN, lcN⟩, ⟨raN, rbN, rcN⟩, ⟨oaN, onN, ocN⟩, ⟨kaN, knN, kcN⟩⟩ := x
 have hcp := copied_any t w _ _ (hX.belowW HI.out.bel) (Nat.le_trans hbt (by decide))
 unfold NV.val at *
 simp only [] at *
 go_simp
 refine hcp.mono ?_
 rintro e w5 ⟨hb, kdC, xnC, flC, txC, laC, lbC, lcC, raC, rbC, rcC, oaC, onC, ocC, kaC, knC, kcC, rfl, hx⟩
 exact hK _ _ (PlG.inv (HI.out.call1 hb hx) rfl put6_19)
theorem plays_s2 {Q : Exit → Act → World → Prop} {t u : Nd} {wb w : World} {a0 : Act} {x y : NV} {b0 : Bool} {b1 : Bool} {b3 : Bool} {b4 : Bool} {b5 : Bool} {b6 : Bool} {b7 : Bool} {v5 v6 x18 x19 x20 x21 : Value} {g5 g6 : Nat} {X Y Z5 Z6 : NV} {F G : Nat → Prop} {gN gM : Nat} {Fx Fy : Nat → Prop} (hsz : a0.tmps.size = 67) (h2 : a0.tmps.getD 2 undef = .pointer (some ⟨gN, 0, none⟩)) (h3 : a0.tmps.getD 3 undef = .pointer (some ⟨gM, 0, none⟩))
  (hN : Blk wb gN 27 x.cells.toArray) (hM : Blk wb gM 27 y.cells.toArray) (hX : NdR wb Fx x t) (hY : NdR wb Fy y u) (hbt : bkN t ≤ 300000000000) (hbu : bkN u ≤ 300000000000) (h : PlI t u wb a0 x y b0 b1 false b3 b4 b5 b6 b7 v5 v6 x18 x19 x20 x21 g5 g6 X Y Z5 Z6 F G w) :
  wpOp Tryd.prog r5 Q 2 (PlInv t u wb a0 x y #[b0, b1, true, b3, b4, b5, b6, b7]) (put6 a0 v5 v6 x18 x19 x20 x21) w := by
 have e3 := get6_3 (v5 := v5) (v6 := v6) (x18 := x18) (x19 := x19) (x20 := x20) (x21 := x21) h3
 have HI := LH h
 clear h
 refine wpOp_step r5_o2 fun K hK => ?_
 unfold ro2
 obtain ⟨kdM, flM, txM, xnM, ⟨laM, lbM, lcM⟩, ⟨raM, rbM, rcM⟩, ⟨oaM, onM, ocM⟩, ⟨kaM, knM, kcM⟩⟩ := y
 have hW := HI.out.bel
 have nzz := (show Blk w gM 27 #[.int .i64 kdM, .string (str flM), .string (str txM), .int .i64 xnM, .bool laM, .bool lbM, .string (str lcM), .bool raM, .bool rbM, .string (str rcM), .slice oaM onM ocM, .slice kaM knM kcM] from hM.belowW hW)
 have n0 := nzz.cell 0
 have n1 := nzz.cell 1
 have n2 := nzz.cell 2
 have n3 := nzz.cell 3
 have n4 := nzz.cell 4
 have n5 := nzz.cell 5
 have n6 := nzz.cell 6
 have n7 := nzz.cell 7
 have n8 := nzz.cell 8
 have n9 := nzz.cell 9
 have n10 := nzz.cell 10
 have n11 := nzz.cell 11
 have ln := nzz.lt
 simp only [List.getElem?_toArray, List.getElem?_cons_zero, List.getElem?_cons_succ] at n0 n1 n2 n3 n4 n5 n6 n7 n8 n9 n10 n11
 clear nzz
 go_simp
 exact hK _ _ (PlG.inv HI.out.load2 rfl put6_20)
theorem plays_s3 {Q : Exit → Act → World → Prop} {t u : Nd} {wb w : World} {a0 : Act} {x y : NV} {b0 : Bool} {b1 : Bool} {b4 : Bool} {b5 : Bool} {b6 : Bool} {b7 : Bool} {v5 v6 x18 x19 x20 x21 : Value} {g5 g6 : Nat} {X Y Z5 Z6 : NV} {F G : Nat → Prop} {gN gM : Nat} {Fx Fy : Nat → Prop} (hsz : a0.tmps.size = 67) (h2 : a0.tmps.getD 2 undef = .pointer (some ⟨gN, 0, none⟩)) (h3 : a0.tmps.getD 3 undef = .pointer (some ⟨gM, 0, none⟩))
  (hN : Blk wb gN 27 x.cells.toArray) (hM : Blk wb gM 27 y.cells.toArray) (hX : NdR wb Fx x t) (hY : NdR wb Fy y u) (hbt : bkN t ≤ 300000000000) (hbu : bkN u ≤ 300000000000) (h : PlI t u wb a0 x y b0 b1 true false b4 b5 b6 b7 v5 v6 x18 x19 x20 x21 g5 g6 X Y Z5 Z6 F G w) :
  wpOp Tryd.prog r5 Q 3 (PlInv t u wb a0 x y #[b0, b1, true, true, b4, b5, b6, b7]) (put6 a0 v5 v6 x18 x19 x20 x21) w := by
 have e20 := get6_20 (v5 := v5) (v6 := v6) (x18 := x18) (x19 := x19) (x20 := x20) (x21 := x21) hsz
 have HI := LH h
 clear h
 refine wpOp_step r5_o3 fun K hK => ?_
 unfold ro3
 have hl := HI.out.l2 rfl
 subst hl
 obtain ⟨kdM, flM, txM, xnM, ⟨laM, lbM, lcM⟩, ⟨raM, rbM, rcM⟩, ⟨oaM, onM, ocM⟩, ⟨kaM, knM, kcM⟩⟩ := y
 have hcp := copied_any u w _ _ (hY.belowW HI.out.bel) (Nat.le_trans hbu (by decide))
 unfold NV.val at *
 simp only [] at *
 go_simp
 refine hcp.mono ?_
 rintro e w5 ⟨hb, kdC, xnC, flC, txC, laC, lbC, lcC, raC, rbC, rcC, oaC, onC, ocC, kaC, knC, kcC, rfl, hx⟩
 exact hK _ _ (PlG.inv (HI.out.call2 hb hx) rfl put6_21)
theorem plays_s4 {Q : Exit → Act → World → Prop} {t u : Nd} {wb w : World} {a0 : Act} {x y : NV} {b0 : Bool} {b1 : Bool} {b2 : Bool} {b3 : Bool} {b5 : Bool} {b6 : Bool} {b7 : Bool} {v5 v6 x18 x19 x20 x21 : Value} {g5 g6 : Nat} {X Y Z5 Z6 : NV} {F G : Nat → Prop} {gN gM : Nat} {Fx Fy : Nat → Prop} (hsz : a0.tmps.size = 67) (h2 : a0.tmps.getD 2 undef = .pointer (some ⟨gN, 0, none⟩)) (h3 : a0.tmps.getD 3 undef = .pointer (some ⟨gM, 0, none⟩))
  (hN : Blk wb gN 27 x.cells.toArray) (hM : Blk wb gM 27 y.cells.toArray) (hX : NdR wb Fx x t) (hY : NdR wb Fy y u) (hbt : bkN t ≤ 300000000000) (hbu : bkN u ≤ 300000000000) (h : PlI t u wb a0 x y b0 b1 b2 b3 false b5 b6 b7 v5 v6 x18 x19 x20 x21 g5 g6 X Y Z5 Z6 F G w) :
  wpOp Tryd.prog r5 Q 4 (PlInv t u wb a0 x y #[b0, b1, b2, b3, true, b5, b6, b7]) (put6 a0 v5 v6 x18 x19 x20 x21) w := by
 
 have HI := LH h
 clear h
 refine wpOp_step r5_o4 fun K hK => ?_
 unfold ro4
 go_simp
 exact hK _ _ (PlG.inv HI.out.alloc1 rfl put6_5)
theorem plays_s5 {Q : Exit → Act → World → Prop} {t u : Nd} {wb w : World} {a0 : Act} {x y : NV} {b0 : Bool} {b1 : Bool} {b2 : Bool} {b3 : Bool} {b4 : Bool} {b6 : Bool} {b7 : Bool} {v5 v6 x18 x19 x20 x21 : Value} {g5 g6 : Nat} {X Y Z5 Z6 : NV} {F G : Nat → Prop} {gN gM : Nat} {Fx Fy : Nat → Prop} (hsz : a0.tmps.size = 67) (h2 : a0.tmps.getD 2 undef = .pointer (some ⟨gN, 0, none⟩)) (h3 : a0.tmps.getD 3 undef = .pointer (some ⟨gM, 0, none⟩))
  (hN : Blk wb gN 27 x.cells.toArray) (hM : Blk wb gM 27 y.cells.toArray) (hX : NdR wb Fx x t) (hY : NdR wb Fy y u) (hbt : bkN t ≤ 300000000000) (hbu : bkN u ≤ 300000000000) (h : PlI t u wb a0 x y b0 b1 b2 b3 b4 false b6 b7 v5 v6 x18 x19 x20 x21 g5 g6 X Y Z5 Z6 F G w) :
  wpOp Tryd.prog r5 Q 5 (PlInv t u wb a0 x y #[b0, b1, b2, b3, b4, true, b6, b7]) (put6 a0 v5 v6 x18 x19 x20 x21) w := by
 
 have HI := LH h
 clear h
 refine wpOp_step r5_o5 fun K hK => ?_
 unfold ro5
 go_simp
 exact hK _ _ (PlG.inv HI.out.alloc2 rfl put6_6)
theorem st6 {Q : Exit → Act → World → Prop} {K : Act → World → Prop} {w : World} {a : Act} {g : Nat} {X Z : NV} (h5 : a.tmps.getD 5 undef = .pointer (some ⟨g, 0, none⟩)) (h19 : a.tmps.getD 19 undef = X.val) (hzb : Blk w g 27 Z.cells.toArray) (hk : K a (set12 w g X)) :
  wpOp Tryd.prog r5 Q 6 K a w := by
 refine wpOp_step r5_o6 fun K2 hK => ?_
 unfold ro6
 obtain ⟨kdC, flC, txC, xnC, ⟨laC, lbC, lcC⟩, ⟨raC, rbC, rcC⟩, ⟨oaC, onC, ocC⟩, ⟨kaC, knC, kcC⟩⟩ := X
 obtain ⟨kdD, flD, txD, xnD, ⟨laD, lbD, lcD⟩, ⟨raD, rbD, rcD⟩, ⟨oaD, onD, ocD⟩, ⟨kaD, knD, kcD⟩⟩ := Z
 have zzz := (show Blk w g 27 #[.int .i64 kdD, .string (str flD), .string (str txD), .int .i64 xnD, .bool laD, .bool lbD, .string (str lcD), .bool raD, .bool rbD, .string (str rcD), .slice oaD onD ocD, .slice kaD knD kcD] from hzb)
 have z0 := zzz.cell 0
 have z1 := zzz.cell 1
 have z2 := zzz.cell 2
 have z3 := zzz.cell 3
 have z4 := zzz.cell 4
 have z5 := zzz.cell 5
 have z6 := zzz.cell 6
 have z7 := zzz.cell 7
 have z8 := zzz.cell 8
 have z9 := zzz.cell 9
 have z10 := zzz.cell 10
 have z11 := zzz.cell 11
 have fz0 := zzz.frozen 0
 have fz1 := zzz.frozen 1
 have fz2 := zzz.frozen 2
 have fz3 := zzz.frozen 3
 have fz4 := zzz.frozen 4
 have fz5 := zzz.frozen 5
 have fz6 := zzz.frozen 6
 have fz7 := zzz.frozen 7
 have fz8 := zzz.frozen 8
 have fz9 := zzz.frozen 9
 have fz10 := zzz.frozen 10
 have fz11 := zzz.frozen 11
 have lz := zzz.lt
 simp only [List.getElem?_toArray, List.getElem?_cons_zero, List.getElem?_cons_succ] at z0 z1 z2 z3 z4 z5 z6 z7 z8 z9 z10 z11
 clear zzz
 unfold NV.val at h19
 simp only [] at h19
 have HK := LH (hK _ _ hk)
 clear hzb hk hK
 go_simp
 exact HK.out
theorem st7 {Q : Exit → Act → World → Prop} {K : Act → World → Prop} {w : World} {a : Act} {g : Nat} {X Z : NV} (h5 : a.tmps.getD 6 undef = .pointer (some ⟨g, 0, none⟩)) (h19 : a.tmps.getD 21 undef = X.val) (hzb : Blk w g 27 Z.cells.toArray) (hk : K a (set12 w g X)) :
  wpOp Tryd.prog r5 Q 7 K a w := by
 refine wpOp_step r5_o7 fun K2 hK => ?_
 unfold ro7
 obtain ⟨kdC, flC, txC, xnC, ⟨laC, lbC, lcC⟩, ⟨raC, rbC, rcC⟩, ⟨oaC, onC, ocC⟩, ⟨kaC, knC, kcC⟩⟩ := X
 obtain ⟨kdD, flD, txD, xnD, ⟨laD, lbD, lcD⟩, ⟨raD, rbD, rcD⟩, ⟨oaD, onD, ocD⟩, ⟨kaD, knD, kcD⟩⟩ := Z
 have zzz := (show Blk w g 27 #[.int .i64 kdD, .string (str flD), .string (str txD), .int .i64 xnD, .bool laD, .bool lbD, .string (str lcD), .bool raD, .bool rbD, .string (str rcD), .slice oaD onD ocD, .slice kaD knD kcD] from hzb)
 have z0 := zzz.cell 0
 have z1 := zzz.cell 1
 have z2 := zzz.cell 2
 have z3 := zzz.cell 3
 have z4 := zzz.cell 4
 have z5 := zzz.cell 5
 have z6 := zzz.cell 6
 have z7 := zzz.cell 7
 have z8 := zzz.cell 8
 have z9 := zzz.cell 9
 have z10 := zzz.cell 10
 have z11 := zzz.cell 11
 have fz0 := zzz.frozen 0
 have fz1 := zzz.frozen 1
 have fz2 := zzz.frozen 2
 have fz3 := zzz.frozen 3
 have fz4 := zzz.frozen 4
 have fz5 := zzz.frozen 5
 have fz6 := zzz.frozen 6
 have fz7 := zzz.frozen 7
 have fz8 := zzz.frozen 8
 have fz9 := zzz.frozen 9
 have fz10 := zzz.frozen 10
 have fz11 := zzz.frozen 11
 have lz := zzz.lt
 simp only [List.getElem?_toArray, List.getElem?_cons_zero, List.getElem?_cons_succ] at z0 z1 z2 z3 z4 z5 z6 z7 z8 z9 z10 z11
 clear zzz
 unfold NV.val at h19
 simp only [] at h19
 have HK := LH (hK _ _ hk)
 clear hzb hk hK
 go_simp
 exact HK.out
theorem plays_s6 {Q : Exit → Act → World → Prop} {t u : Nd} {wb w : World} {a0 : Act} {x y : NV} {b0 : Bool} {b2 : Bool} {b3 : Bool} {b5 : Bool} {b7 : Bool} {v5 v6 x18 x19 x20 x21 : Value} {g5 g6 : Nat} {X Y Z5 Z6 : NV} {F G : Nat → Prop} (hsz : a0.tmps.size = 67) (h : PlI t u wb a0 x y b0 true b2 b3 true b5 false b7 v5 v6 x18 x19 x20 x21 g5 g6 X Y Z5 Z6 F G w) :
  wpOp Tryd.prog r5 Q 6 (PlInv t u wb a0 x y #[b0, true, b2, b3, true, b5, true, b7]) (put6 a0 v5 v6 x18 x19 x20 x21) w :=
 st6 ((get6_5 hsz).trans (h.a5 rfl).1) ((get6_19 hsz).trans (h.c1 rfl).1) (h.a5 rfl).2.2 (PlG.inv h.store1 rfl rfl)
theorem plays_s7 {Q : Exit → Act → World → Prop} {t u : Nd} {wb w : World} {a0 : Act} {x y : NV} {b0 : Bool} {b1 : Bool} {b2 : Bool} {b4 : Bool} {b6 : Bool} {v5 v6 x18 x19 x20 x21 : Value} {g5 g6 : Nat} {X Y Z5 Z6 : NV} {F G : Nat → Prop} (hsz : a0.tmps.size = 67) (h : PlI t u wb a0 x y b0 b1 b2 true b4 true b6 false v5 v6 x18 x19 x20 x21 g5 g6 X Y Z5 Z6 F G w) :
  wpOp Tryd.prog r5 Q 7 (PlInv t u wb a0 x y #[b0, b1, b2, true, b4, true, b6, true]) (put6 a0 v5 v6 x18 x19 x20 x21) w :=
 st7 ((get6_6 hsz).trans (h.a6 rfl).1) ((get6_21 hsz).trans (h.c2 rfl).1) (h.a6 rfl).2.2 (PlG.inv h.store2 rfl rfl)
section
variable {Q : Exit → Act → World → Prop}
theorem plays_r5 (t u : Nd) (wb : World) (a0 : Act) (x y : NV) (gN gM : Nat) (Fx Fy : Nat → Prop) (hsz : a0.tmps.size = 67) (h2 : a0.tmps.getD 2 undef = .pointer (some ⟨gN, 0, none⟩)) (h3 : a0.tmps.getD 3 undef = .pointer (some ⟨gM, 0, none⟩))
  (hN : Blk wb gN 27 x.cells.toArray) (hM : Blk wb gM 27 y.cells.toArray) (hX : NdR wb Fx x t) (hY : NdR wb Fy y u) (hbt : bkN t ≤ 300000000000) (hbu : bkN u ≤ 300000000000)
  (hQ : ∀ v5 v6 x18 x19 x20 x21 wx, TwoR t u wb v5 v6 wx → Q .normal (put6 a0 v5 v6 x18 x19 x20 x21) wx) : Code.wp Tryd.prog (prg 5) Q a0 wb := by
 rw [prg5]
 refine wp_region_any (by kernel_rfl) ?_
 refine wpAny_inv (Inv := PlInv t u wb a0 x y) ?_ ?_ _ _ _ _ ?_ ?_
 ·intro l a w i hI hr
  obtain ⟨b0, b1, b2, b3, b4, b5, b6, b7, v5, v6, x18, x19, x20, x21, g5, g6, X, Y, Z5, Z6, F, G, rfl, rfl, h⟩ := hI
  have hc := List.all_eq_true.1 (r5_ready b0 b1 b2 b3 b4 b5 b6 b7) i hr
  simp only [Bool.or_eq_true, Bool.and_eq_true, beq_iff_eq, Bool.not_eq_true'] at hc
  clear hr
  rcases hc with ((((((⟨rfl, rfl⟩ | ⟨⟨rfl, rfl⟩, rfl⟩) | ⟨rfl, rfl⟩) | ⟨⟨rfl, rfl⟩, rfl⟩) | ⟨rfl, rfl⟩) | ⟨rfl, rfl⟩) | ⟨⟨⟨rfl, rfl⟩, rfl⟩, rfl⟩) | ⟨⟨⟨rfl, rfl⟩, rfl⟩, rfl⟩
  ·exact plays_s0 hsz h2 h3 hN hM hX hY hbt hbu h
  ·exact plays_s1 hsz h2 h3 hN hM hX hY hbt hbu h
  ·exact plays_s2 hsz h2 h3 hN hM hX hY hbt hbu h
  ·exact plays_s3 hsz h2 h3 hN hM hX hY hbt hbu h
  ·exact plays_s4 hsz h2 h3 hN hM hX hY hbt hbu h
  ·exact plays_s5 hsz h2 h3 hN hM hX hY hbt hbu h
  ·exact plays_s6 hsz h
  ·exact plays_s7 hsz h
 ·intro l a w hI hr
  obtain ⟨b0, b1, b2, b3, b4, b5, b6, b7, v5, v6, x18, x19, x20, x21, g5, g6, X, Y, Z5, Z6, F, G, rfl, rfl, h⟩ := hI
  have hc := r5_end b0 b1 b2 b3 b4 b5 b6 b7
  rw [hr] at hc
  simp only [List.isEmpty_nil, Bool.not_true, Bool.false_or, Bool.and_eq_true] at hc
  obtain ⟨⟨⟨⟨⟨⟨⟨rfl, rfl⟩, rfl⟩, rfl⟩, rfl⟩, rfl⟩, rfl⟩, rfl⟩ := hc
  exact hQ _ _ _ _ _ _ _ h.fin
 ·refine ⟨false, false, false, false, false, false, false, false, _, _, _, _, _, _, 0, 0, zNV, zNV, zNV, zNV, fun _ => True, fun _ => True, ?_, put6_self a0, ?_⟩
  ·rw [r5_size]; rfl
  ·constructor <;> first | (intro h; cases h) | exact (Below.refl _ _).drew
 ·rw [r5_size]; decide
end
end Go.Proofs.YthcldpminmhgkaaDoor
end
