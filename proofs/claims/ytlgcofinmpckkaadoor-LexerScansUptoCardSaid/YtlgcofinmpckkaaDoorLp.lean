/- Layer 13, plainly: classes of bytes, and what Word, Quote and Pattern write. No program in sight. -/
import Derived.Test.YtlgcofinmpckkaaDoorBase
namespace Go.Proofs.YtlgcofinmpckkaaDoor
open Go.RowKit

/-- the table of classes -/
def clsTab : List Int := (List.range 128).map fun j =>
  if j = 32 ∨ j = 9 ∨ j = 10 ∨ j = 13 then 1
  else if j = 40 ∨ j = 41 ∨ j = 91 ∨ j = 93 ∨ j = 123 ∨ j = 125 ∨ j = 58 ∨ j = 124 ∨ j = 94 ∨ j = 126 ∨ j = 64 ∨ j = 34 then 2
  else if j = 42 ∨ j = 63 then 3 else if j = 92 then 4 else 0
/-- a byte's class: 0 letter, 1 blank, 2 mark, 3 wild, 4 escape -/
def cls (b : UInt8) : Int := if b.toNat < 128 then clsTab.getD b.toNat 0 else 0
def kwd (l : List UInt8) : Int := if l = [65, 78, 68] then 4 else if l = [79, 82] then 5 else if l = [78, 79, 84] then 6 else if l = [84, 79] then 7 else 1
/-- a letter as it is written in a run -/
def esc (first : Bool) (c : UInt8) : List UInt8 := if cls c ≠ 0 ∨ (first = true ∧ (c = 43 ∨ c = 45)) then [92, c] else [c]
def lettersTo (first : Bool) (l : List UInt8) : Nat → List UInt8
  | 0 => []
  | k + 1 => lettersTo first l k ++ esc (first && k == 0) (l.getD k 0)
def lettersL (first : Bool) (l : List UInt8) : List UInt8 := lettersTo first l l.length
def wordL (l : List UInt8) : List UInt8 := if kwd l ≠ 1 then 92 :: l else lettersL true l
def qesc (c : UInt8) : List UInt8 := if c = 34 ∨ c = 92 then [92, c] else [c]
def quoteTo (l : List UInt8) : Nat → List UInt8
  | 0 => [34]
  | k + 1 => quoteTo l k ++ qesc (l.getD k 0)
def quoteL (l : List UInt8) : List UInt8 := quoteTo l l.length ++ [34]
theorem getD_byte (s : ByteArray) (k : Nat) (h : k < s.size) : s.data.toList.getD k 0 = s[k] := by
  rw [List.getD_eq_getElem?_getD, List.getElem?_eq_getElem (by rw [← ba_size]; exact h)]; rfl
theorem esc_length (f : Bool) (c : UInt8) : (esc f c).length ≤ 2 := by unfold esc; split <;> simp
theorem lettersTo_length (f : Bool) (l : List UInt8) (k : Nat) : (lettersTo f l k).length ≤ 2 * k := by
  induction k with
  | zero => simp [lettersTo]
  | succ k ih => rw [lettersTo, List.length_append]; have := esc_length (f && k == 0) (l.getD k 0); omega
theorem quoteTo_length (l : List UInt8) (k : Nat) : (quoteTo l k).length ≤ 2 * k + 1 := by
  induction k with
  | zero => simp [quoteTo]
  | succ k ih =>
    rw [quoteTo, List.length_append]
    have : (qesc (l.getD k 0)).length ≤ 2 := by unfold qesc; split <;> simp
    omega
theorem kwd_toList (s : ByteArray) : (s.toList == [65, 78, 68]) = decide (s.data.toList = [65, 78, 68]) ∧ (s.toList == [79, 82]) = decide (s.data.toList = [79, 82]) ∧ (s.toList == [78, 79, 84]) = decide (s.data.toList = [78, 79, 84]) ∧ (s.toList == [84, 79]) = decide (s.data.toList = [84, 79]) := by
  rw [ba_toList]
  refine ⟨?_, ?_, ?_, ?_⟩ <;> (rw [Bool.eq_iff_iff]; simp)
end Go.Proofs.YtlgcofinmpckkaaDoor
