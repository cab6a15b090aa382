/- A drawn region by an invariant: what is kept by each operation that is ready holds behind all, in any order. -/
import Derived.Test.YtmdpfikalekmlaaGreatDoorProg
import Derived.RegionTactic
namespace Go.Proofs.YtmdpfikalekmlaaGreatDoor
open Go

section
variable {P : Program} {ops : Array Oper} {Q : Exit → Act → World → Prop} {md : Region.Mode}
/-- How many operations are not done. -/
def undone (listed : Array Bool) : Nat := listed.toList.count false
theorem undone_set {listed : Array Bool} {i : Nat} (hi : listed.getD i true = false) : undone (listed.setIfInBounds i true) + 1 = undone listed := by
  obtain ⟨l⟩ := listed
  unfold undone
  have hlt : i < l.length := by
    rcases Nat.lt_or_ge i l.length with h | h
    · exact h
    · exfalso; simp [Array.getD, Nat.not_lt.2 h] at hi
  have hv : l[i] = false := by simpa [Array.getD, hlt] using hi
  simp only [List.setIfInBounds_toArray]
  clear hi
  induction l generalizing i with
  | nil => exact absurd hlt (Nat.not_lt_zero _)
  | cons x l ih =>
    cases i with
    | zero =>
      have : x = false := hv
      subst this
      simp
    | succ i =>
      have h := ih (i := i) (by simpa using hlt) (by simpa using hv)
      simp only [List.set_cons_succ, List.count_cons]
      omega
theorem ready_false {listed : Array Bool} {i : Nat} (h : i ∈ Region.ready md ops listed) : listed.getD i true = false := by
  unfold Region.ready at h
  rw [List.mem_filter] at h
  have := h.2
  rw [Bool.and_eq_true] at this
  simpa using this.1
theorem wpAny_inv {Inv : Array Bool → Act → World → Prop}
    (hstep : ∀ (listed : Array Bool) (a : Act) (w : World) (i : Nat), Inv listed a w → i ∈ Region.ready md ops listed → wpOp P ops Q i (Inv (listed.setIfInBounds i true)) a w)
    (hend : ∀ (listed : Array Bool) (a : Act) (w : World), Inv listed a w → Region.ready md ops listed = [] → Q .normal a w) :
    ∀ (fuel : Nat) (listed : Array Bool) (a : Act) (w : World), Inv listed a w → undone listed ≤ fuel → wpAny P md ops Q fuel listed a w
  | 0, listed, a, w, h, hf => by
    have hr : Region.ready md ops listed = [] := by
      rcases hq : Region.ready md ops listed with _ | ⟨i, r⟩
      · rfl
      · have h1 := ready_false (md := md) (ops := ops) (listed := listed) (i := i) (by rw [hq]; exact List.mem_cons_self)
        have h2 := undone_set h1
        omega
    exact ⟨hr, hend _ _ _ h hr⟩
  | fuel + 1, listed, a, w, h, hf =>
    ⟨hend _ _ _ h, fun i hi => wpOp_mono (fun a' w' h' => wpAny_inv hstep hend fuel _ a' w' h' (by have := undone_set (ready_false hi); omega)) (hstep _ _ _ _ h hi)⟩
end
end Go.Proofs.YtmdpfikalekmlaaGreatDoor
