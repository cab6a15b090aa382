/- What ParseNumber answers of decimal digits, of noughts ahead, of a byte put in. Plain. -/
import Derived.Test.YtdkalcecmdadeaaPw
namespace Go.Proofs.Ytdkalcecmdadeaa
open Go.RowKit

theorem isDig_45 : isDig 45 = false := by decide
theorem pres_bad {d : List UInt8} {m : Bool} {c : UInt8} (h : c ∈ d) (hc : isDig c = false) : pres d m = (0, false) := by
  unfold pres
  rw [if_pos]
  right
  rw [List.all_eq_false]
  exact ⟨c, h, by rw [hc]; simp⟩
theorem dval_zeros (n : Nat) (l : List UInt8) : dval (List.replicate n 48 ++ l) = dval l := by
  induction n with
  | zero => simp
  | succ n ih => rw [List.replicate_succ, List.cons_append, dval_cons, ih]; simp
theorem all_zeros (n : Nat) (l : List UInt8) (h : l.all isDig = true) : (List.replicate n 48 ++ l).all isDig = true := by
  rw [List.all_append, h, Bool.and_true, List.all_eq_true]
  intro x hx
  rw [List.eq_of_mem_replicate hx]; decide
theorem pres_good {v : Int} {d : List UInt8} (h1 : d ≠ []) (h2 : d.all isDig = true) (h3 : dval d = v.natAbs) (h0 : -9223372036854775808 ≤ v) (hv : v ≤ 9223372036854775807) : pres d (decide (v < 0)) = (v, true) := by
  unfold pres
  rw [if_neg (by rintro (h | h); exact h1 h; rw [h2] at h; cases h), h3]
  by_cases h : v < 0
  · rw [if_pos (by simpa using h), if_pos (by omega)]
    congr 1; omega
  · rw [if_neg (by simpa using h), if_pos (by omega)]
    congr 1; omega
theorem head_dig {d : List UInt8} (h1 : d ≠ []) (h2 : d.all isDig = true) : d.head? ≠ some 45 := by
  cases d with
  | nil => exact absurd rfl h1
  | cons c t =>
    intro h
    have : c = 45 := by simpa using h
    rw [this] at h2
    simp [isDig_45] at h2
/-- The digits d behind v's sign. -/
theorem pnum_good {v : Int} {d : List UInt8} (h1 : d ≠ []) (h2 : d.all isDig = true) (h3 : dval d = v.natAbs) (h0 : -9223372036854775808 ≤ v) (hv : v ≤ 9223372036854775807) : pnum (if v < 0 then 45 :: d else d) = (v, true) := by
  have := pres_good h1 h2 h3 h0 hv
  unfold pnum
  by_cases h : v < 0
  · rw [if_pos h]
    rw [if_pos (by rfl)]
    simpa [h] using this
  · rw [if_neg h, if_neg (head_dig h1 h2)]
    simpa [h] using this
theorem dec_parses {v : Int} {s : ByteArray} (h : IsDec v s) (h0 : -9223372036854775808 ≤ v) (hv : v ≤ 9223372036854775807) : pnum s.data.toList = (v, true) := by
  obtain ⟨ds, e, h1, h2, h3, _⟩ := h
  rw [e]
  exact pnum_good h1 h2 h3 h0 hv
/-- A text of v's sign, noughts and digits. -/
def IsLong (v : Int) (s : ByteArray) : Prop := ∃ ds : List UInt8, s.data.toList = (if v < 0 then 45 :: ds else ds) ∧ ds ≠ [] ∧ ds.all isDig = true ∧ dval ds = v.natAbs
theorem long_parses {v : Int} {s : ByteArray} (h : IsLong v s) (h0 : -9223372036854775808 ≤ v) (hv : v ≤ 9223372036854775807) : pnum s.data.toList = (v, true) := by
  obtain ⟨ds, e, h1, h2, h3⟩ := h
  rw [e]
  exact pnum_good h1 h2 h3 h0 hv
theorem long_pos {v : Int} {s z : ByteArray} {n : Nat} (h : IsDec v s) (hz : z.data.toList = List.replicate n 48) (hv : ¬ v < 0) : IsLong v (z ++ s) := by
  obtain ⟨ds, e, h1, h2, h3, _⟩ := h
  rw [if_neg hv] at e
  exact ⟨List.replicate n 48 ++ ds, by rw [if_neg hv, ba_append, e, hz], by simp [h1], all_zeros _ _ h2, by rw [dval_zeros, h3]⟩
theorem long_neg {v : Int} {s z : ByteArray} {n : Nat} (h : IsDec v s) (hz : z.data.toList = List.replicate n 48) (hv : v < 0) : IsLong v (⟨#[45]⟩ ++ z ++ s.extract 1 s.size) := by
  obtain ⟨ds, e, h1, h2, h3, _⟩ := h
  rw [if_pos hv] at e
  have e2 : (s.extract 1 s.size).data.toList = ds := by
    rw [Lib.extract_data, e, List.drop_one, List.tail_cons, List.take_of_length_le]
    rw [ba_size, e]; simp
  refine ⟨List.replicate n 48 ++ ds, ?_, by simp [h1], all_zeros _ _ h2, by rw [dval_zeros, h3]⟩
  rw [if_pos hv, ba_append, ba_append, e2, hz]; rfl
/-- With a byte put in that is no digit it is no number. -/
theorem long_spoilt {v : Int} {s : ByteArray} (h : IsLong v s) (at_ : Nat) (hat : at_ < s.size) (c : UInt8) (hc : isDig c = false) (hx : ¬ (at_ = 0 ∧ c = 45 ∧ ¬ v < 0)) :
    pnum (s.data.toList.take at_ ++ [c] ++ s.data.toList.drop at_) = (0, false) := by
  obtain ⟨ds, e, h1, h2, _⟩ := h
  have hlen : s.size = s.data.toList.length := ba_size s
  rw [hlen] at hat
  rw [e] at hat ⊢
  unfold pnum
  by_cases hv : v < 0
  · rw [if_pos hv] at hat ⊢
    cases at_ with
    | zero =>
      by_cases h45 : c = 45
      · subst h45
        rw [if_pos (by simp)]
        exact pres_bad (c := 45) (by simp) isDig_45
      · rw [if_neg (by simpa using h45)]
        exact pres_bad (c := c) (by simp) hc
    | succ k =>
      rw [if_pos (by simp)]
      exact pres_bad (c := c) (by simp) hc
  · rw [if_neg hv] at hat ⊢
    have h3 : (ds.take at_ ++ [c] ++ ds.drop at_).head? ≠ some 45 := by
      cases at_ with
      | zero =>
        intro h
        exact hx ⟨rfl, by simpa using h, hv⟩
      | succ k =>
        have := head_dig h1 h2
        cases ds with
        | nil => exact absurd rfl h1
        | cons a t => simpa using this
    rw [if_neg h3]
    exact pres_bad (c := c) (by simp) hc
end Go.Proofs.Ytdkalcecmdadeaa
