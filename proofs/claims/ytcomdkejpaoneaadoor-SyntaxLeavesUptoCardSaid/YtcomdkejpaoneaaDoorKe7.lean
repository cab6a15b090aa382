/- Merged for a claim by shake.py: Zt -/
import Derived.Test.YtcomdkejpaoneaaDoorKe5
import Derived.Test.YtcomdkejpaoneaaDoorKe6
section
namespace Go.Proofs.YtcomdkejpaoneaaDoor
open Go.RowKit
set_option maxRecDepth 100000
set_option maxHeartbeats 4000000
set_option linter.unusedSimpArgs false
set_option linter.unusedVariables false
theorem sg_nil {t : List UInt8} {q : Nat} (h : signsFrom t q = []) : t = [] := by
  match t, h with
  | [], _ => rfl
  | [c], h => exact absurd h (by simp [signsFrom])
  | c :: d :: t, h =>
    by_cases h92 : c = 92
    · subst h92; rw [sg_es] at h; cases h
    · rw [sg_ne _ _ h92] at h; cases h
theorem sg_head {t : List UInt8} {q : Nat} {x : Sg} {r : List Sg} (h : signsFrom t q = x :: r) : x.place = q ∧ 1 ≤ t.length := by
  match t, h with
  | [], h => exact absurd h (by simp [signsFrom])
  | [c], h => cases h; exact ⟨rfl, Nat.le_refl _⟩
  | c :: d :: t, h =>
    by_cases h92 : c = 92
    · subst h92; rw [sg_es] at h; cases h; exact ⟨rfl, by simp⟩
    · rw [sg_ne _ _ h92] at h; cases h; exact ⟨rfl, by simp⟩
structure SgPos (s : ByteArray) (i p : Nat) : Prop where
  le : p ≤ s.size
  eq : (signs s.data.toList).drop i = signsFrom (s.data.toList.drop p) p
section
variable {s : ByteArray} {i p : Nat} {x : Sg}
theorem SgPos.lt (h : SgPos s i p) (hi : i < (signs s.data.toList).length) : p < s.size := by
  have h1 := h.eq
  rw [List.drop_eq_getElem_cons hi] at h1
  have h2 := (sg_head h1.symm).2
  rw [List.length_drop, ← ba_size] at h2
  omega
theorem SgPos.stop (h : SgPos s i p) (hi : ¬ i < (signs s.data.toList).length) : ¬ p < s.size := by
  have h1 := h.eq
  rw [List.drop_eq_nil_of_le (by omega)] at h1
  have h2 := sg_nil h1.symm
  rw [List.drop_eq_nil_iff, ← ba_size] at h2
  omega
theorem SgPos.place (h : SgPos s i p) (hx : (signs s.data.toList)[i]? = some x) : x.place = p := by
  obtain ⟨hi, rfl⟩ := List.getElem?_eq_some_iff.1 hx
  have h1 := h.eq
  rw [List.drop_eq_getElem_cons hi] at h1
  exact (sg_head h1.symm).1
theorem SgPos.blank (h : SgPos s i p) (hp : p < s.size) (hc : cls s[p] = 1) (hx : (signs s.data.toList)[i]? = some x) : x.letter = false ∧ x.c = s[p] ∧ SgPos s (i + 1) (p + 1) := by
  obtain ⟨hi, rfl⟩ := List.getElem?_eq_some_iff.1 hx
  have h92 : s[p] ≠ 92 := by intro e; rw [e] at hc; exact absurd hc (by decide)
  have h1 := h.eq
  rw [List.drop_eq_getElem_cons hi, dropB s hp, sg_ne _ _ h92] at h1
  injection h1 with h1 h2
  refine ⟨by rw [h1], by rw [h1], by omega, h2⟩
theorem SgPos.none (h : SgPos s i p) (hp : p < s.size) (hc : cls s[p] ≠ 1) (ho : oneS ((signs s.data.toList).drop i) = none) : sTok s p = none := by
  rw [h.eq, dropB s hp] at ho
  have h1 := oneS_eq s[p] (s.data.toList.drop (p + 1)) p hc
  unfold sTok
  rw [dropB s hp]
  cases ht : tokOf (s[p] :: s.data.toList.drop (p + 1)) with
  | none => rfl
  | some tk =>
    rw [ht] at h1
    obtain ⟨k, h2, h3, h4⟩ := h1
    rw [h2] at ho; cases ho
end
end Go.Proofs.YtcomdkejpaoneaaDoor
end
