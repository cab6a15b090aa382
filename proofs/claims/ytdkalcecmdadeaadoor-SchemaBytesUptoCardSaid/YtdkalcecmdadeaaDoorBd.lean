/- Layer 4, plainly: a schema's bytes. -/
import Derived.Test.YtdkalcecmdadeaaDoorWr
import Derived.Test.YtdkalcecmdadeaaDoorUv
import Derived.Test.YtdkalcecmdadeaaDoorTxp
namespace Go.Proofs.YtdkalcecmdadeaaDoor
open Go.RowKit
set_option maxRecDepth 100000
set_option linter.unusedSimpArgs false
set_option linter.unusedVariables false

def kindN (f : Fd) : Nat := f.kind.toNat + (if f.fold then 4 else 0) + (if f.stop then 8 else 0) + (if f.stem then 16 else 0)
def fieldB (f : Fd) : List UInt8 := txL f.name ++ [UInt8.ofNat (kindN f)]
def encTo (l : List Fd) : Nat → List UInt8
  | 0 => uvL l.length
  | k + 1 => encTo l k ++ fieldB (l.getD k ⟨⟨#[]⟩, 0, false, false, false⟩)
def encL (l : List Fd) : List UInt8 := encTo l l.length
theorem encTo_succ {l : List Fd} {k : Nat} (hk : k < l.length) : encTo l (k + 1) = encTo l k ++ fieldB l[k] := by
  rw [encTo, List.getD_eq_getElem?_getD, List.getElem?_eq_getElem hk]; rfl
theorem encTo_length {l : List Fd} (h : chkL l = true) (hl : l.length ≤ 16) (k : Nat) (hk : k ≤ l.length) : (encTo l k).length ≤ 10 + 50 * k := by
  induction k with
  | zero =>
    have := uvL_len64 (n := l.length) (by omega)
    rw [encTo]; omega
  | succ k ih =>
    rw [encTo_succ (by omega), List.length_append]
    have h1 := ih (by omega)
    have h2 := (chk_name32 h (k := k) (by omega)).1
    have h3 := uvL_len64 (n := l[k].name.size) (by omega)
    have h4 : (fieldB l[k]).length = (uvL l[k].name.size).length + l[k].name.size + 1 := by
      unfold fieldB txL
      simp only [List.length_append, List.length_cons, List.length_nil, ← ba_size]
    omega
/-- A field of a name and a byte. -/
def fdOf (nm : List UInt8) (x : UInt8) : Fd := ⟨str nm, ((x.toNat % 4 : Nat) : Int), decide (x.toNat / 4 % 2 = 1), decide (x.toNat / 8 % 2 = 1), decide (x.toNat / 16 % 2 = 1)⟩
def decGo (m : List UInt8) : Nat → Nat → List Fd → Bool → Rr (List Fd × Bool)
  | 0, k, acc, odd => .ok (acc, odd) k
  | n + 1, k, acc, odd => match textR 32 m k with
    | .no i => .no i
    | .ok nm j => match m[j]? with
      | none => .no 0
      | some x => decGo m n (j + 1) (acc ++ [fdOf nm x]) (odd || decide (31 < x.toNat))
def decL (m : List UInt8) : Rr (List Fd × Bool) := match uptoR 16 m 0 with
  | .no i => .no i
  | .ok n j => decGo m n j [] false
/-- Fields that need not be good, or an error's number less one. -/
def decD (m : List UInt8) : Except Nat (List Fd) := match decL m with
  | .no i => .error i
  | .ok (l, odd) k => if k < m.length then .error 4 else if odd then .error 10 else .ok l
/-- Decode's answer: fields, or an error's number less one. -/
def decS (m : List UInt8) : Except Nat (List Fd) := match decD m with
  | .error i => .error i
  | .ok l => if chkL l then .ok l else .error 10
theorem decGo_stop {m : List UInt8} {n k : Nat} {acc : List Fd} {odd : Bool} {i : Nat} (h : textR 32 m k = .no i) : decGo m (n + 1) k acc odd = .no i := by
  rw [decGo, h]
theorem decGo_short {m : List UInt8} {n k : Nat} {acc : List Fd} {odd : Bool} {nm : List UInt8} {j : Nat} (h : textR 32 m k = .ok nm j) (h2 : m[j]? = none) : decGo m (n + 1) k acc odd = .no 0 := by
  rw [decGo, h]; simp only []; rw [h2]
theorem decGo_next {m : List UInt8} {n k : Nat} {acc : List Fd} {odd : Bool} {nm : List UInt8} {j : Nat} {x : UInt8} (h : textR 32 m k = .ok nm j) (h2 : m[j]? = some x) : decGo m (n + 1) k acc odd = decGo m n (j + 1) (acc ++ [fdOf nm x]) (odd || decide (31 < x.toNat)) := by
  rw [decGo, h]; simp only []; rw [h2]
theorem decL_no {m : List UInt8} {i : Nat} (h : uptoR 16 m 0 = .no i) : decL m = .no i := by unfold decL; rw [h]
theorem decL_ok {m : List UInt8} {n j : Nat} (h : uptoR 16 m 0 = .ok n j) : decL m = decGo m n j [] false := by unfold decL; rw [h]
theorem decD_no {m : List UInt8} {i : Nat} (h : decL m = .no i) : decD m = .error i := by unfold decD; rw [h]
theorem decD_ok {m : List UInt8} {l : List Fd} {odd : Bool} {k : Nat} (h : decL m = .ok (l, odd) k) : decD m = if k < m.length then .error 4 else if odd then .error 10 else .ok l := by unfold decD; rw [h]
theorem byteF {p : UInt8 → Bool} (h : (List.range 256).all (fun n => p (UInt8.ofNat n)) = true) (c : UInt8) : p c = true := by
  rw [List.all_eq_true] at h
  have := h c.toNat (by rw [List.mem_range]; exact c.toNat_lt)
  rwa [UInt8.ofNat_toNat] at this
theorem and_3 (x : UInt8) : bits .and .u8 (x.toNat : Int) 3 = ((x.toNat % 4 : Nat) : Int) :=
  of_decide_eq_true (byteF (p := fun x => decide (bits .and .u8 (x.toNat : Int) 3 = ((x.toNat % 4 : Nat) : Int))) (by decide +kernel) x)
theorem and_4 (x : UInt8) : (bits .and .u8 (x.toNat : Int) 4 != 0) = decide (x.toNat / 4 % 2 = 1) :=
  of_decide_eq_true (byteF (p := fun x => decide ((bits .and .u8 (x.toNat : Int) 4 != 0) = decide (x.toNat / 4 % 2 = 1))) (by decide +kernel) x)
theorem and_8 (x : UInt8) : (bits .and .u8 (x.toNat : Int) 8 != 0) = decide (x.toNat / 8 % 2 = 1) :=
  of_decide_eq_true (byteF (p := fun x => decide ((bits .and .u8 (x.toNat : Int) 8 != 0) = decide (x.toNat / 8 % 2 = 1))) (by decide +kernel) x)
theorem and_16 (x : UInt8) : (bits .and .u8 (x.toNat : Int) 16 != 0) = decide (x.toNat / 16 % 2 = 1) :=
  of_decide_eq_true (byteF (p := fun x => decide ((bits .and .u8 (x.toNat : Int) 16 != 0) = decide (x.toNat / 16 % 2 = 1))) (by decide +kernel) x)
theorem decGo_le (m : List UInt8) : ∀ (n k : Nat) (acc : List Fd) (odd : Bool) (r : List Fd × Bool) (j : Nat), k ≤ m.length → decGo m n k acc odd = .ok r j → j ≤ m.length
  | 0, k, acc, odd, r, j, hk, h => by
    unfold decGo at h; injection h with h1 h2; omega
  | n + 1, k, acc, odd, r, j, hk, h => by
    unfold decGo at h
    split at h
    · cases h
    · rename_i nm i hi
      have := textR_le hk hi
      split at h
      · cases h
      · rename_i x hx
        have h2 : i < m.length := by
          rcases Nat.lt_or_ge i m.length with h3 | h3
          · exact h3
          · rw [List.getElem?_eq_none h3] at hx; cases hx
        exact decGo_le m n (i + 1) _ _ r j (by omega) h
end Go.Proofs.YtdkalcecmdadeaaDoor
