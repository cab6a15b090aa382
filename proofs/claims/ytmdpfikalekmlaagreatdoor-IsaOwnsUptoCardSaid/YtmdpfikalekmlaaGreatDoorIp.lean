/- Layer 20, plainly: instructions and their bytes. -/
import Derived.Test.YtmdpfikalekmlaaGreatDoorTb
import Derived.Test.YtmdpfikalekmlaaGreatDoorRu
import Derived.Test.YtmdpfikalekmlaaGreatDoorWr
namespace Go.Proofs.YtmdpfikalekmlaaGreatDoor
open Go.RowKit
set_option maxRecDepth 100000
set_option linter.unusedSimpArgs false
set_option linter.unusedVariables false

structure Ins where
  op : Int
  a : Nat
  b : Nat
deriving DecidableEq
/-- How many operands an operation has; none: there is no such operation. -/
def argsN (op : Int) : Option Nat := if 0 ≤ op ∧ op < 17 then some (opArgs op.toNat).toNat else none
theorem argsN_some {op : Int} {n : Nat} (h : argsN op = some n) : 0 ≤ op ∧ op < 17 ∧ opArgs op.toNat = (n : Int) ∧ n ≤ 2 := by
  unfold argsN at h
  split at h
  · rename_i h1
    injection h with h
    have := opArgs_bd op.toNat
    exact ⟨h1.1, h1.2, by omega, by omega⟩
  · cases h
theorem argsN_none {op : Int} (h : argsN op = none) : op < 0 ∨ 17 ≤ op := by
  unfold argsN at h
  split at h
  · cases h
  · omega
def insOk (x : Ins) : Bool := match argsN x.op with
  | none => false
  | some n => (decide (1 ≤ n) || decide (x.a = 0)) && (decide (2 ≤ n) || decide (x.b = 0))
def insB (x : Ins) : List UInt8 := UInt8.ofNat x.op.toNat :: match argsN x.op with
  | none => []
  | some n => (if 1 ≤ n then uvL x.a else []) ++ (if 2 ≤ n then uvL x.b else [])
def encI (l : List Ins) : List UInt8 := l.flatMap insB
theorem encI_snoc (l : List Ins) (x : Ins) : encI (l ++ [x]) = encI l ++ insB x := by simp [encI]
def SmallIns (l : List Ins) : Prop := ∀ x ∈ l, x.a < 18446744073709551616 ∧ x.b < 18446744073709551616
theorem insB_len {x : Ins} (h : x.a < 18446744073709551616 ∧ x.b < 18446744073709551616) : (insB x).length ≤ 21 := by
  unfold insB
  have h1 := uvL_len64 h.1
  have h2 := uvL_len64 h.2
  rw [List.length_cons]
  split
  · simp
  · rw [List.length_append]
    split <;> split <;> simp <;> omega
theorem encI_len {l : List Ins} (h : SmallIns l) (k : Nat) : (encI (l.take k)).length ≤ 21 * k := by
  induction k with
  | zero => simp [encI]
  | succ k ih =>
    by_cases hk : k < l.length
    · rw [List.take_succ_eq_append_getElem hk, encI_snoc, List.length_append]
      have := insB_len (h l[k] (List.getElem_mem hk))
      omega
    · rw [List.take_of_length_le (by omega)] at ih ⊢
      omega
theorem all_take {l : List Ins} {k : Nat} (hk : k < l.length) : (l.take (k + 1)).all insOk = ((l.take k).all insOk && insOk l[k]) := by
  rw [List.take_succ_eq_append_getElem hk, List.all_append]; simp
theorem all_bad {l : List Ins} {k : Nat} (hk : k < l.length) (h : insOk l[k] = false) : l.all insOk = false := by
  rw [List.all_eq_false]; exact ⟨l[k], List.getElem_mem hk, by rw [h]; decide⟩
/-- One instruction out of bytes: it and the place behind it. -/
def insR (m : List UInt8) (k : Nat) : Option (Ins × Nat) := match m[k]? with
  | none => none
  | some x => match argsN (x.toNat : Int) with
    | none => none
    | some 0 => some (⟨x.toNat, 0, 0⟩, k + 1)
    | some n => match uvR m (k + 1) with
      | .no _ => none
      | .ok a j => if n = 1 then some (⟨x.toNat, a, 0⟩, j) else match uvR m j with
        | .no _ => none
        | .ok b i => some (⟨x.toNat, a, b⟩, i)
theorem insR_le {m : List UInt8} {k : Nat} {x : Ins} {j : Nat} (h : insR m k = some (x, j)) : k < j ∧ j ≤ m.length ∧ x.a < 18446744073709551616 ∧ x.b < 18446744073709551616 := by
  unfold insR at h
  split at h
  · cases h
  · rename_i y hy
    have hk : k < m.length := (List.getElem?_eq_some_iff.1 hy).1
    split at h
    · cases h
    · injection h with h
      injection h with h1 h2
      subst h1; subst h2
      exact ⟨by omega, by omega, by show 0 < _; omega, by show 0 < _; omega⟩
    · rename_i n _ _
      split at h
      · cases h
      · rename_i a j1 hu
        have h3 := uvR_le (by omega) hu
        split at h
        · injection h with h
          injection h with h1 h2
          subst h1; subst h2
          exact ⟨by omega, by omega, h3.2.2, by show 0 < _; omega⟩
        · split at h
          · cases h
          · rename_i b i hu2
            have h4 := uvR_le (by omega) hu2
            injection h with h
            injection h with h1 h2
            subst h1; subst h2
            exact ⟨by omega, by omega, h3.2.2, h4.2.2⟩
/-- All instructions of bytes, from a place on; the first number is fuel. -/
def decIF (m : List UInt8) : Nat → Nat → List Ins → Option (List Ins)
  | 0, _, _ => none
  | f + 1, k, acc => if m.length ≤ k then some acc else match insR m k with
    | none => none
    | some (x, j) => decIF m f j (acc ++ [x])
def decI (m : List UInt8) : Option (List Ins) := decIF m (m.length + 1) 0 []
theorem decIF_end {m : List UInt8} {f k : Nat} {acc : List Ins} (h : m.length ≤ k) : decIF m (f + 1) k acc = some acc := by rw [decIF, if_pos h]
theorem decIF_bad {m : List UInt8} {f k : Nat} {acc : List Ins} (h : k < m.length) (h2 : insR m k = none) : decIF m (f + 1) k acc = none := by rw [decIF, if_neg (by omega), h2]
theorem decIF_next {m : List UInt8} {f k : Nat} {acc : List Ins} {x : Ins} {j : Nat} (h : k < m.length) (h2 : insR m k = some (x, j)) : decIF m (f + 1) k acc = decIF m f j (acc ++ [x]) := by rw [decIF, if_neg (by omega), h2]
theorem insR_op {m : List UInt8} {k : Nat} {x : UInt8} (h : m[k]? = some x) (h2 : argsN (x.toNat : Int) = none) : insR m k = none := by unfold insR; rw [h]; simp only []; rw [h2]
theorem insR_0 {m : List UInt8} {k : Nat} {x : UInt8} (h : m[k]? = some x) (h2 : argsN (x.toNat : Int) = some 0) : insR m k = some (⟨x.toNat, 0, 0⟩, k + 1) := by unfold insR; rw [h]; simp only []; rw [h2]; rfl
theorem insR_no {m : List UInt8} {k n i : Nat} {x : UInt8} (h : m[k]? = some x) (h2 : argsN (x.toNat : Int) = some (n + 1)) (h3 : uvR m (k + 1) = .no i) : insR m k = none := by unfold insR; rw [h]; simp only []; rw [h2]; simp only []; rw [h3]
theorem insR_1 {m : List UInt8} {k a j : Nat} {x : UInt8} (h : m[k]? = some x) (h2 : argsN (x.toNat : Int) = some 1) (h3 : uvR m (k + 1) = .ok a j) : insR m k = some (⟨x.toNat, a, 0⟩, j) := by unfold insR; rw [h]; simp only []; rw [h2]; simp only []; rw [h3]; rfl
theorem insR_no2 {m : List UInt8} {k a j i : Nat} {x : UInt8} (h : m[k]? = some x) (h2 : argsN (x.toNat : Int) = some 2) (h3 : uvR m (k + 1) = .ok a j) (h4 : uvR m j = .no i) : insR m k = none := by
  unfold insR; rw [h]; simp only []; rw [h2]; simp only []; rw [h3]; simp only []; rw [if_neg (by decide), h4]
theorem insR_2 {m : List UInt8} {k a j b i : Nat} {x : UInt8} (h : m[k]? = some x) (h2 : argsN (x.toNat : Int) = some 2) (h3 : uvR m (k + 1) = .ok a j) (h4 : uvR m j = .ok b i) : insR m k = some (⟨x.toNat, a, b⟩, i) := by
  unfold insR; rw [h]; simp only []; rw [h2]; simp only []; rw [h3]; simp only []; rw [if_neg (by decide), h4]
end Go.Proofs.YtmdpfikalekmlaaGreatDoor
