/- Merged for a claim by shake.py: Cp -/
import Derived.Test.YtcomdkejpaoneaaDoorKd7
section
namespace Go.Proofs.YtcomdkejpaoneaaDoor
open Go.RowKit
set_option maxRecDepth 100000
theorem kwd_pos (l : List UInt8) : kwd l ≠ 0 := by
  unfold kwd
  repeat' split
  all_goals decide
theorem numTk_kind {kind : Int} {l : List UInt8} {m : Nat} {k : Tk} (h : numTk kind l m = some k) : k.kind = kind := by
  unfold numTk at h
  split at h
  · cases h; rfl
  · cases h
theorem tok_kind {l : List UInt8} {k : Tk} (h : tokOf l = some k) : k.kind ≠ 0 := by
  cases l with
  | nil => cases h
  | cons c t =>
    simp only [tokOf] at h
    split at h
    · rename_i hs; cases h; exact hs
    · split at h
      · obtain ⟨y, hy, rfl⟩ := Option.map_eq_some_iff.1 h; simp
      · split at h
        · split at h
          · rw [numTk_kind h]; decide
          · rw [numTk_kind h]; decide
        · split at h
          · split at h
            · cases h; simp
            · rw [numTk_kind h]; decide
          · split at h
            · rw [numTk_kind h]; decide
            · unfold runTk at h
              obtain ⟨r, hr, rfl⟩ := Option.map_eq_some_iff.1 h
              split
              · simp
              · exact kwd_pos _
theorem tok_alone {c : UInt8} {t : List UInt8} {k : Tk} (h : tokOf (c :: t) = some k) (hc : cls c ≠ 1) : scanL ((c :: t).take k.len) = ([⟨k.kind, k.text, k.n, 0, k.len⟩, ⟨0, [], 0, k.len, k.len⟩], none) := by
  have hk := tok_len h (fun d hd => by cases hd; exact hc)
  rw [List.length_cons] at hk
  obtain ⟨n, hn⟩ : ∃ n, k.len = n + 1 := ⟨k.len - 1, by omega⟩
  have ht : tokOf (c :: t.take n) = some k := tok_cut (b := t.drop n) (by rw [List.take_append_drop]; exact h) (by rw [List.length_take]; omega)
  have hl : ((c :: t).take k.len).length = k.len := by rw [List.length_take, List.length_cons]; omega
  unfold scanL
  rw [hl, hn, List.take_succ_cons, scanF, if_neg hc, ht]
  simp only []
  rw [← List.take_succ_cons, ← hn, List.drop_eq_nil_of_le (by omega), hn, scanF]
  simp [ahead, Tk.lx, hn]
structure Cov (q : List UInt8) (a : Nat) (x : Lx) : Prop where
  le : a ≤ x.at_
  lt : x.at_ < x.end_
  len : x.end_ ≤ q.length
  bl : ∀ c ∈ (q.drop a).take (x.at_ - a), cls c = 1
  kind : x.kind ≠ 0
  one : scanL ((q.drop x.at_).take (x.end_ - x.at_)) = ([⟨x.kind, x.text, x.n, 0, x.end_ - x.at_⟩, ⟨0, [], 0, x.end_ - x.at_, x.end_ - x.at_⟩], none)
def Covs (q : List UInt8) : Nat → List Lx → Prop
  | _, [] => False
  | a, [x] => x = ⟨0, [], 0, q.length, q.length⟩ ∧ a ≤ q.length ∧ ∀ c ∈ q.drop a, cls c = 1
  | a, x :: y :: t => Cov q a x ∧ Covs q x.end_ (y :: t)
theorem Covs_blank {q : List UInt8} {a : Nat} {c : UInt8} {t : List UInt8} {l : List Lx} (hd : q.drop a = c :: t) (hc : cls c = 1) (h : Covs q (a + 1) l) : Covs q a l := by
  have hd1 : q.drop (a + 1) = t := by rw [Nat.add_comm, ← List.drop_drop, List.drop_drop, Nat.add_comm, ← List.drop_drop, hd]; rfl
  match l, h with
  | [x], h =>
    obtain ⟨h1, h2, h3⟩ := h
    refine ⟨h1, by omega, ?_⟩
    rw [hd]
    intro d hdm
    rw [List.mem_cons] at hdm
    rcases hdm with rfl | hdm
    · exact hc
    · exact h3 d (by rw [hd1]; exact hdm)
  | x :: y :: t', h =>
    obtain ⟨⟨h1, h2, h3, h4, h5, h6⟩, h7⟩ := h
    refine ⟨⟨by omega, h2, h3, ?_, h5, h6⟩, h7⟩
    rw [hd, show x.at_ - a = (x.at_ - (a + 1)) + 1 from by omega, List.take_succ_cons]
    intro d hdm
    rw [List.mem_cons] at hdm
    rcases hdm with rfl | hdm
    · exact hc
    · exact h4 d (by rw [hd1]; exact hdm)
theorem scanF_cov : ∀ (f : Nat) (q : List UInt8) (i : Nat) (la : List Lx), i ≤ q.length → scanF f (q.drop i) i = (la, none) → Covs q i la
  | 0, q, i, la, hi, h => by cases h
  | f + 1, q, i, la, hi, h => by
    cases hd : q.drop i with
    | nil =>
      rw [hd, scanF] at h
      cases h
      have hl : q.length ≤ i := List.drop_eq_nil_iff.1 hd
      obtain rfl : i = q.length := by omega
      exact ⟨rfl, Nat.le_refl _, by rw [hd]; simp⟩
    | cons c t =>
      have hd1 : q.drop (i + 1) = t := by rw [← List.drop_drop, hd]; rfl
      have hlen : q.length = i + (t.length + 1) := by
        have := congrArg List.length hd
        rw [List.length_drop, List.length_cons] at this; omega
      rw [hd, scanF] at h
      split at h
      · rename_i hc
        exact Covs_blank hd hc (scanF_cov f q (i + 1) la (by omega) (by rw [hd1]; exact h))
      · rename_i hc
        split at h
        · cases h
        · rename_i k ht
          have hk := tok_len ht (fun d hd => by cases hd; exact hc)
          rw [List.length_cons] at hk
          rcases hr : scanF f ((c :: t).drop k.len) (i + k.len) with ⟨u, _ | z⟩
          · rw [hr] at h
            cases h
            have hrec := scanF_cov f q (i + k.len) u (by omega) (by rw [← List.drop_drop, hd]; exact hr)
            cases u with
            | nil => exact hrec.elim
            | cons y u =>
              refine ⟨⟨Nat.le_refl _, by simp only [Tk.lx]; omega, by simp only [Tk.lx]; omega, by simp [Tk.lx], tok_kind ht, ?_⟩, hrec⟩
              simp only [Tk.lx]
              rw [hd, show i + k.len - i = k.len from by omega]
              exact tok_alone ht hc
          · rw [hr] at h; cases h
theorem scanL_cov {q : List UInt8} {la : List Lx} (h : scanL q = (la, none)) : Covs q 0 la := scanF_cov _ q 0 la (by omega) h
def endOf (l : List Lx) (i : Nat) : Nat := if i = 0 then 0 else (l.getD (i - 1) ⟨0, [], 0, 0, 0⟩).end_
theorem Covs_at {q : List UInt8} : ∀ {l : List Lx} {a : Nat}, Covs q a l → ∀ (i : Nat) (hi : i < l.length), (if i = 0 then a else (l.getD (i - 1) ⟨0, [], 0, 0, 0⟩).end_) ≤ q.length ∧
    (i + 1 = l.length → l[i] = ⟨0, [], 0, q.length, q.length⟩ ∧ ∀ c ∈ q.drop (if i = 0 then a else (l.getD (i - 1) ⟨0, [], 0, 0, 0⟩).end_), cls c = 1) ∧ (i + 1 < l.length → Cov q (if i = 0 then a else (l.getD (i - 1) ⟨0, [], 0, 0, 0⟩).end_) l[i])
  | [], a, h, i, hi => by cases h
  | [x], a, h, i, hi => by
    obtain ⟨rfl, h2, h3⟩ := h
    obtain rfl : i = 0 := by simp at hi; omega
    exact ⟨h2, fun _ => ⟨rfl, h3⟩, fun h => by simp at h⟩
  | x :: y :: t, a, h, i, hi => by
    obtain ⟨h1, h2⟩ := h
    cases i with
    | zero =>
      rw [if_pos rfl]
      exact ⟨by have := h1.le; have := h1.lt; have := h1.len; omega, fun h => by simp at h, fun _ => h1⟩
    | succ i =>
      have := Covs_at h2 i (by simp at hi ⊢; omega)
      rw [if_neg (by omega)]
      have e : ((x :: y :: t).getD (i + 1 - 1) ⟨0, [], 0, 0, 0⟩).end_ = if i = 0 then x.end_ else ((y :: t).getD (i - 1) ⟨0, [], 0, 0, 0⟩).end_ := by
        cases i with
        | zero => rfl
        | succ i => rw [if_neg (by omega)]; simp [List.getD]
      rw [e]
      obtain ⟨g1, g2, g3⟩ := this
      exact ⟨g1, fun h => g2 (by simpa using h), fun h => g3 (by simpa using h)⟩
theorem scanL_at {q : List UInt8} {l : List Lx} (h : scanL q = (l, none)) (i : Nat) (hi : i < l.length) : endOf l i ≤ q.length ∧
    (i + 1 = l.length → l[i] = ⟨0, [], 0, q.length, q.length⟩ ∧ ∀ c ∈ q.drop (endOf l i), cls c = 1) ∧ (i + 1 < l.length → Cov q (endOf l i) l[i]) :=
  Covs_at (scanL_cov h) i hi
theorem endOf_succ (l : List Lx) (i : Nat) (hi : i < l.length) : endOf l (i + 1) = l[i].end_ := by
  unfold endOf
  rw [if_neg (by omega), Nat.add_sub_cancel, List.getD_eq_getElem?_getD, List.getElem?_eq_getElem hi]; rfl
end Go.Proofs.YtcomdkejpaoneaaDoor
end
