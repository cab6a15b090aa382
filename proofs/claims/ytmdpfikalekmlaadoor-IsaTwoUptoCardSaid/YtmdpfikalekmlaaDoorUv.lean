/- Layer 1: what the readers answer, plainly. -/
import Derived.Test.YtmdpfikalekmlaaDoorBase
namespace Go.Proofs.YtmdpfikalekmlaaDoor
set_option maxRecDepth 100000
set_option linter.unusedSimpArgs false
set_option linter.unusedVariables false

/-- Where a uvarint ends. -/
inductive Uv where
  | ok (n : Nat)
  | short
  | bad
def uvScan : Nat → List UInt8 → Uv
  | _, [] => .short
  | i, x :: r => if i = 9 ∧ 1 < x.toNat then .bad else if 128 ≤ x.toNat then uvScan (i + 1) r else if x.toNat = 0 ∧ 0 < i then .bad else .ok (i + 1)
def uvVal (l : List UInt8) : Nat := l.foldr (fun x v => 128 * v + x.toNat % 128) 0
theorem uvVal_nil : uvVal [] = 0 := rfl
theorem uvVal_cons (x : UInt8) (l : List UInt8) : uvVal (x :: l) = 128 * uvVal l + x.toNat % 128 := rfl
theorem uvVal_snoc (l : List UInt8) (x : UInt8) : uvVal (l ++ [x]) = uvVal l + 128 ^ l.length * (x.toNat % 128) := by
  induction l with
  | nil => simp [uvVal]
  | cons a l ih =>
    rw [List.cons_append, uvVal_cons, ih, uvVal_cons, List.length_cons, Nat.pow_succ, Nat.mul_add, ← Nat.mul_assoc, Nat.mul_comm 128 (128 ^ l.length)]
    omega
theorem uvVal_lt (l : List UInt8) : uvVal l < 128 ^ l.length := by
  induction l with
  | nil => simp [uvVal]
  | cons a l ih =>
    rw [uvVal_cons, List.length_cons, Nat.pow_succ]
    omega
theorem uvScan_none (i : Nat) : uvScan i [] = .short := rfl
theorem uvScan_at {m : List UInt8} {j : Nat} (i : Nat) (h : j < m.length) : uvScan i (m.drop j) = if i = 9 ∧ 1 < m[j].toNat then .bad else if 128 ≤ m[j].toNat then uvScan (i + 1) (m.drop (j + 1)) else if m[j].toNat = 0 ∧ 0 < i then .bad else .ok (i + 1) := by
  rw [List.drop_eq_getElem_cons h]; rfl
theorem uvScan_end {m : List UInt8} {j : Nat} (i : Nat) (h : m.length ≤ j) : uvScan i (m.drop j) = .short := by
  rw [List.drop_eq_nil_of_le h]; rfl
theorem uvScan_le : ∀ (l : List UInt8) (i n : Nat), uvScan i l = .ok n → i < n ∧ n ≤ i + l.length
  | [], i, n, h => by cases h
  | x :: r, i, n, h => by
    unfold uvScan at h
    split at h
    · cases h
    · split at h
      · have := uvScan_le r (i + 1) n h
        rw [List.length_cons]; omega
      · split at h
        · cases h
        · cases h
          rw [List.length_cons]; omega
theorem uvScan_le10 : ∀ (l : List UInt8) (i n : Nat), i ≤ 9 → uvScan i l = .ok n → n ≤ 10
  | [], i, n, _, h => by cases h
  | x :: r, i, n, hi, h => by
    unfold uvScan at h
    split at h
    · cases h
    · split at h
      · rename_i h1 h2
        exact uvScan_le10 r (i + 1) n (by rcases Nat.lt_or_ge i 9 with h9 | h9; omega; exact absurd ⟨by omega, by omega⟩ h1) h
      · split at h
        · cases h
        · cases h
          omega
/-- The value that a scan ends with fits. -/
theorem uvVal_fits (m : List UInt8) (n : Nat) (h : uvScan 0 m = .ok n) : uvVal (m.take n) < 18446744073709551616 := by
  have hn := uvScan_le m 0 n h
  have hn10 := uvScan_le10 m 0 n (by omega) h
  rcases Nat.lt_or_ge n 10 with h9 | h9
  · have h1 := uvVal_lt (m.take n)
    have h2 : (m.take n).length = n := by rw [List.length_take]; omega
    rw [h2] at h1
    exact Nat.lt_of_lt_of_le h1 (Nat.le_trans (Nat.pow_le_pow_right (by decide) (by omega : n ≤ 9)) (by decide))
  · obtain rfl : n = 10 := by omega
    have h9' : 9 < m.length := by omega
    rw [List.take_succ_eq_append_getElem h9', uvVal_snoc]
    have h1 := uvVal_lt (m.take 9)
    have h2 : (m.take 9).length = 9 := by rw [List.length_take]; omega
    rw [h2] at h1 ⊢
    have hs : ∀ j, j ≤ 9 → uvScan 0 m = uvScan j (m.drop j) := by
      intro j
      induction j with
      | zero => intro _; rfl
      | succ j ih =>
        intro hj
        rw [ih (by omega)] at h ⊢
        rw [uvScan_at j (by omega)] at h ⊢
        split at h
        · cases h
        · rename_i h3
          rw [if_neg h3]
          split at h
          · rename_i h4
            rw [if_pos h4]
          · split at h
            · cases h
            · injection h with h
              omega
    rw [hs 9 (by omega), uvScan_at 9 h9'] at h
    split at h
    · cases h
    · rename_i h3
      have h4 : m[9].toNat ≤ 1 := by
        rcases Nat.lt_or_ge 1 m[9].toNat with h5 | h5
        · exact absurd ⟨rfl, h5⟩ h3
        · exact h5
      have h5 : m[9].toNat % 128 ≤ 1 := by omega
      have h6 : (128 : Nat) ^ 9 = 9223372036854775808 := by decide
      rw [h6] at h1 ⊢
      have := Nat.mul_le_mul_left 9223372036854775808 h5
      omega
/-- What a reader answers: a value and the place behind it, or an error's number (less one). -/
inductive Rr (α : Type) where
  | ok (v : α) (k : Nat)
  | no (i : Nat)
def uvR (m : List UInt8) (k : Nat) : Rr Nat := match uvScan 0 (m.drop k) with
  | .ok n => .ok (uvVal ((m.drop k).take n)) (k + n)
  | .short => .no 0
  | .bad => .no 1
theorem uvR_ok {m : List UInt8} {k n : Nat} (h : uvScan 0 (m.drop k) = .ok n) : uvR m k = .ok (uvVal ((m.drop k).take n)) (k + n) := by unfold uvR; rw [h]
theorem uvR_short {m : List UInt8} {k : Nat} (h : uvScan 0 (m.drop k) = .short) : uvR m k = .no 0 := by unfold uvR; rw [h]
theorem uvR_bad {m : List UInt8} {k : Nat} (h : uvScan 0 (m.drop k) = .bad) : uvR m k = .no 1 := by unfold uvR; rw [h]
theorem uvR_le {m : List UInt8} {k v j : Nat} (hk : k ≤ m.length) (h : uvR m k = .ok v j) : k < j ∧ j ≤ m.length ∧ v < 18446744073709551616 := by
  unfold uvR at h
  split at h
  · rename_i n hn
    injection h with h1 h2
    subst h1; subst h2
    have := uvScan_le _ _ _ hn
    rw [List.length_drop] at this
    exact ⟨by omega, by omega, uvVal_fits _ _ hn⟩
  · cases h
  · cases h
theorem uvR_no {m : List UInt8} {k i : Nat} (h : uvR m k = .no i) : i = 0 ∨ i = 1 := by
  unfold uvR at h
  split at h
  · cases h
  · injection h with h; omega
  · injection h with h; omega
def uptoR (most : Nat) (m : List UInt8) (k : Nat) : Rr Nat := match uvR m k with
  | .ok v j => if most < v then .no 2 else .ok v j
  | .no i => .no i
theorem uptoR_le {most : Nat} {m : List UInt8} {k v j : Nat} (hk : k ≤ m.length) (h : uptoR most m k = .ok v j) : k < j ∧ j ≤ m.length ∧ v ≤ most := by
  unfold uptoR at h
  split at h
  · rename_i v' j' hv
    split at h
    · cases h
    · injection h with h1 h2
      subst h1; subst h2
      have := uvR_le hk hv
      omega
  · cases h
theorem uptoR_no {most : Nat} {m : List UInt8} {k i : Nat} (h : uptoR most m k = .no i) : i = 0 ∨ i = 1 ∨ i = 2 := by
  unfold uptoR at h
  split at h
  · split at h
    · injection h with h; omega
    · cases h
  · rename_i i' hv
    injection h with h
    have := uvR_no hv
    omega
def textR (most : Nat) (m : List UInt8) (k : Nat) : Rr (List UInt8) := match uptoR most m k with
  | .ok n j => if m.length - j < n then .no 0 else .ok ((m.drop j).take n) (j + n)
  | .no i => .no i
theorem textR_le {most : Nat} {m : List UInt8} {k : Nat} {t : List UInt8} {j : Nat} (hk : k ≤ m.length) (h : textR most m k = .ok t j) : k < j ∧ j ≤ m.length ∧ t.length ≤ most := by
  unfold textR at h
  split at h
  · rename_i n j' hv
    split at h
    · cases h
    · injection h with h1 h2
      subst h1; subst h2
      have := uptoR_le hk hv
      rw [List.length_take]
      omega
  · cases h
theorem textR_no {most : Nat} {m : List UInt8} {k i : Nat} (h : textR most m k = .no i) : i = 0 ∨ i = 1 ∨ i = 2 := by
  unfold textR at h
  split at h
  · split at h
    · injection h with h; omega
    · cases h
  · rename_i i' hv
    injection h with h
    have := uptoR_no hv
    omega
end Go.Proofs.YtmdpfikalekmlaaDoor
