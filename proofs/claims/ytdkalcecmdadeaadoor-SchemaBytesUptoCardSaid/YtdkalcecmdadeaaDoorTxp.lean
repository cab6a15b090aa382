/- Layer 4, plainly: a schema's text. -/
import Derived.Test.YtdkalcecmdadeaaDoorGs
import Derived.Test.YtdkalcecmdadeaaDoorIxb
namespace Go.Proofs.YtdkalcecmdadeaaDoor
open Go.RowKit
set_option maxRecDepth 100000

def kWord (k : Int) : List UInt8 := if k = 1 then [116, 101, 120, 116] else if k = 2 then [107, 101, 121, 119, 111, 114, 100] else [110, 117, 109, 98, 101, 114]
def flagsL (f : Fd) : List UInt8 := (if f.fold then [44, 102, 111, 108, 100] else []) ++ (if f.stop then [44, 115, 116, 111, 112] else []) ++ (if f.stem then [44, 115, 116, 101, 109] else [])
def pieceL (f : Fd) : List UInt8 := f.name.data.toList ++ (58 :: kWord f.kind) ++ flagsL f
def textTo (l : List Fd) : Nat → List UInt8
  | 0 => []
  | k + 1 => textTo l k ++ (if k = 0 then [] else [59]) ++ pieceL (l.getD k ⟨⟨#[]⟩, 0, false, false, false⟩)
def textL (l : List Fd) : List UInt8 := textTo l l.length
theorem textTo_succ {l : List Fd} {k : Nat} (hk : k < l.length) : textTo l (k + 1) = textTo l k ++ (if k = 0 then [] else [59]) ++ pieceL l[k] := by
  rw [textTo, List.getD_eq_getElem?_getD, List.getElem?_eq_getElem hk]; rfl
theorem chk_name32 {l : List Fd} (h : chkL l = true) {k : Nat} (hk : k < l.length) : l[k].name.size ≤ 32 ∧ goodNameL l[k].name.data.toList = true ∧ goodKindF l[k] = true := by
  unfold chkL at h
  simp only [Bool.and_eq_true, List.all_eq_true, List.mem_range] at h
  have := h.2 k hk
  rw [okAt_eq hk] at this
  simp only [Bool.and_eq_true, Bool.not_eq_true'] at this
  refine ⟨?_, this.1.2, this.2⟩
  have h2 := this.1.2
  unfold goodNameL at h2
  simp only [Bool.and_eq_true, decide_eq_true_eq] at h2
  rw [ba_size]; exact h2.1.2
theorem kWord_length (k : Int) : (kWord k).length ≤ 7 := by
  unfold kWord
  split
  · simp
  · split <;> simp
theorem flagsL_length (f : Fd) : (flagsL f).length ≤ 15 := by
  unfold flagsL
  cases f.fold <;> cases f.stop <;> cases f.stem <;> simp
theorem textTo_length {l : List Fd} (h : chkL l = true) (k : Nat) (hk : k ≤ l.length) : (textTo l k).length ≤ 60 * k := by
  induction k with
  | zero => simp [textTo]
  | succ k ih =>
    rw [textTo_succ (by omega), List.length_append, List.length_append]
    have h1 := (chk_name32 h (k := k) (by omega)).1
    have h2 := kWord_length l[k].kind
    have h3 := flagsL_length l[k]
    have h4 : (pieceL l[k]).length ≤ 55 := by
      unfold pieceL
      rw [List.length_append, List.length_append, List.length_cons, ← ba_size]
      omega
    have := ih (by omega)
    have h5 : (if k = 0 then [] else [(59 : UInt8)]).length ≤ 1 := by split <;> simp
    omega
theorem kind_three {f : Fd} (h : goodKindF f = true) : f.kind = 1 ∨ f.kind = 2 ∨ f.kind = 3 := by
  simp only [goodKindF, Bool.or_eq_true, Bool.and_eq_true, decide_eq_true_eq] at h
  omega
end Go.Proofs.YtdkalcecmdadeaaDoor
