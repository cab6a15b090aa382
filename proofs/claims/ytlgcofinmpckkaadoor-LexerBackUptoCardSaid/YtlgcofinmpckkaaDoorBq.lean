/- Plain laws: the patterns of LexerBack, piece by piece. -/
import Derived.Test.YtlgcofinmpckkaaDoorBk
namespace Go.Proofs.YtlgcofinmpckkaaDoor
set_option maxRecDepth 100000
set_option linter.unusedVariables false

/-- What LexerBack makes of letters and gaps. -/
def pcs (lets : List ByteArray) (gaps : List Bool) (k : Nat) : List Pt := (lets.getD k ⟨#[]⟩).data.toList.map Pt.le ++ (if k < gaps.length then [Pt.wi (if gaps.getD k false then 63 else 42)] else [])
def ptTo (lets : List ByteArray) (gaps : List Bool) : Nat → List Pt
  | 0 => []
  | k + 1 => ptTo lets gaps k ++ pcs lets gaps k
theorem pcs_ok (lets : List ByteArray) (gaps : List Bool) (k : Nat) : ∀ x ∈ pcs lets gaps k, x.ok := by
  intro x hx
  unfold pcs at hx
  rcases List.mem_append.1 hx with h | h
  · obtain ⟨c, _, rfl⟩ := List.mem_map.1 h
    trivial
  · split at h
    · rcases List.mem_singleton.1 h with rfl
      show cls _ = 3
      cases gaps.getD k false <;> decide
    · cases h
theorem ptTo_ok (lets : List ByteArray) (gaps : List Bool) (k : Nat) : ∀ x ∈ ptTo lets gaps k, x.ok := by
  induction k with
  | zero => intro x hx; cases hx
  | succ k ih =>
    intro x hx
    rcases List.mem_append.1 hx with h | h
    · exact ih x h
    · exact pcs_ok lets gaps k x h
theorem pcs_len (lets : List ByteArray) (gaps : List Bool) (k : Nat) (hk : k < lets.length) : (pcs lets gaps k).length ≤ lets[k].size + 1 := by
  unfold pcs
  rw [List.length_append, List.length_map, List.getD_eq_getElem?_getD, List.getElem?_eq_getElem hk, Option.getD_some, ← ba_size]
  split <;> simp
theorem ptTo_len (lets : List ByteArray) (gaps : List Bool) (k : Nat) (hk : k ≤ lets.length) : (ptTo lets gaps k).length ≤ ((lets.take k).map fun s => s.size + 1).sum := by
  induction k with
  | zero => simp [ptTo]
  | succ k ih =>
    have hk' : k < lets.length := by omega
    have h1 := ih (by omega)
    have h2 := pcs_len lets gaps k hk'
    rw [ptTo, List.length_append, List.take_succ_eq_append_getElem hk', List.map_append, List.sum_append]
    simp only [List.map_cons, List.map_nil, List.sum_cons, List.sum_nil]
    omega
theorem sum_take (l : List ByteArray) (k : Nat) : ((l.take k).map fun s => s.size + 1).sum ≤ (l.map fun s => s.size + 1).sum := by
  conv => rhs; rw [← List.take_append_drop k l]
  rw [List.map_append, List.sum_append]
  omega
theorem ptTo_room (lets : List ByteArray) (gaps : List Bool) (k : Nat) (hk : k < lets.length) : (ptTo lets gaps k).length + lets[k].size + 1 ≤ (lets.map fun s => s.size + 1).sum := by
  have h1 := ptTo_len lets gaps k (by omega)
  have h2 := sum_take lets (k + 1)
  rw [List.take_succ_eq_append_getElem hk, List.map_append, List.sum_append] at h2
  simp only [List.map_cons, List.map_nil, List.sum_cons, List.sum_nil] at h2
  omega
theorem pt_b2 (x : Pt) : x.p.b.length ≤ 2 ∧ x.c.b.length ≤ 2 := by
  cases x with
  | wi c => exact ⟨by simp [Pt.p, At.b], by simp [Pt.c, At.b]⟩
  | le c =>
    refine ⟨by simp [Pt.p, At.b], ?_⟩
    show (if c = 42 ∨ c = 63 ∨ c = 92 then At.es c else At.pl c).b.length ≤ 2
    split <;> simp [At.b]
theorem ptP_len (l : List Pt) : (ptP l).length ≤ 2 * l.length ∧ (ptC l).length ≤ 2 * l.length := by
  induction l with
  | nil => exact ⟨by decide, by decide⟩
  | cons x l ih =>
    have := pt_b2 x
    have e1 : ptP (x :: l) = x.p.b ++ ptP l := rfl
    have e2 : ptC (x :: l) = x.c.b ++ ptC l := rfl
    rw [e1, e2, List.length_append, List.length_append, List.length_cons]
    omega
theorem ptP_app (a b : List Pt) : ptP (a ++ b) = ptP a ++ ptP b ∧ ptC (a ++ b) = ptC a ++ ptC b := by
  unfold ptP ptC
  rw [List.map_append, List.map_append, atB_append, atB_append]
  exact ⟨rfl, rfl⟩
theorem ptP_snoc (a : List Pt) (x : Pt) : ptP (a ++ [x]) = ptP a ++ x.p.b ∧ ptC (a ++ [x]) = ptC a ++ x.c.b := by
  have := ptP_app a [x]
  rw [this.1, this.2]
  have e1 : ptP [x] = x.p.b := by show x.p.b ++ [] = _; rw [List.append_nil]
  have e2 : ptC [x] = x.c.b := by show x.c.b ++ [] = _; rw [List.append_nil]
  rw [e1, e2]
  exact ⟨rfl, rfl⟩
theorem any_le (l : List UInt8) : (l.map Pt.le).any Pt.isWi = false := by
  rw [List.any_eq_false]
  intro x hx
  obtain ⟨c, _, rfl⟩ := List.mem_map.1 hx
  simp [Pt.isWi]
theorem pattern_none (l : List Pt) (h : ∀ x ∈ l, x.ok) (hw : l.any Pt.isWi = false) : patternL (ptP l) = [] ∧ patternL (ptC l) = [] := by
  rw [pattern_p l h, pattern_c l h, hw]
  exact ⟨rfl, rfl⟩
theorem pattern_same (l : List Pt) (h : ∀ x ∈ l, x.ok) : patternL (ptC l) = patternL (ptP l) := by
  rw [pattern_p l h, pattern_c l h]
end Go.Proofs.YtlgcofinmpckkaaDoor
