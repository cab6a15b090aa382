/- Plain laws: where the reference's scan stands. -/
import Derived.Test.YtlgcofinmpckkaaDoorZs
import Derived.Test.YtlgcofinmpckkaaDoorSc
namespace Go.Proofs.YtlgcofinmpckkaaDoor
open Go.RowKit
set_option maxRecDepth 100000
set_option maxHeartbeats 4000000
set_option linter.unusedSimpArgs false
set_option linter.unusedVariables false

/-- Behind a sign the next one stands at its end. -/
theorem sg_ends : ∀ (t : List UInt8) (q k : Nat) (x : Sg), (signsFrom t q)[k]? = some x → ∃ n, n ≤ t.length ∧ (signsFrom t q).drop (k + 1) = signsFrom (t.drop n) (q + n) ∧ x.place + x.size = q + n
  | [], q, k, x, h => by simp [signsFrom] at h
  | [c], q, k, x, h => by
    have e : signsFrom [c] q = [⟨c, false, q, 1⟩] := rfl
    rw [e] at h
    cases k with
    | zero => cases h; exact ⟨1, Nat.le_refl _, rfl, rfl⟩
    | succ k => simp at h
  | c :: d :: t, q, k, x, h => by
    by_cases h92 : c = 92
    · subst h92
      rw [sg_es] at h ⊢
      cases k with
      | zero => cases h; exact ⟨2, by simp, rfl, rfl⟩
      | succ k =>
        rw [List.getElem?_cons_succ] at h
        obtain ⟨n, h1, h2, h3⟩ := sg_ends t (q + 2) k x h
        refine ⟨n + 2, by simp; omega, ?_, by omega⟩
        rw [List.drop_succ_cons, h2, List.drop_succ_cons, List.drop_succ_cons]
        congr 1; omega
    · rw [sg_ne _ _ h92] at h ⊢
      cases k with
      | zero => cases h; exact ⟨1, by simp, rfl, rfl⟩
      | succ k =>
        rw [List.getElem?_cons_succ] at h
        obtain ⟨n, h1, h2, h3⟩ := sg_ends (d :: t) (q + 1) k x h
        refine ⟨n + 1, by simp at h1 ⊢; omega, ?_, by omega⟩
        rw [List.drop_succ_cons, h2, List.drop_succ_cons]
        congr 1; omega
theorem sg_nil {t : List UInt8} {q : Nat} (h : signsFrom t q = []) : t = [] := by
  match t, h with
  | [], _ => rfl
  | [c], h => exact absurd h (by simp [signsFrom])
  | c :: d :: t, h =>
    by_cases h92 : c = 92
    · subst h92; rw [sg_es] at h; cases h
    · rw [sg_ne _ _ h92] at h; cases h
theorem sg_head {t : List UInt8} {q : Nat} {x : Sg} {r : List Sg} (h : signsFrom t q = x :: r) : x.place = q ∧ 1 ≤ t.length := by
  match t, h with
  | [], h => exact absurd h (by simp [signsFrom])
  | [c], h => cases h; exact ⟨rfl, Nat.le_refl _⟩
  | c :: d :: t, h =>
    by_cases h92 : c = 92
    · subst h92; rw [sg_es] at h; cases h; exact ⟨rfl, by simp⟩
    · rw [sg_ne _ _ h92] at h; cases h; exact ⟨rfl, by simp⟩
theorem sg_same {t : List UInt8} {q n m : Nat} (hn : n ≤ t.length) (hm : m ≤ t.length) (h : signsFrom (t.drop n) (q + n) = signsFrom (t.drop m) (q + m)) : n = m := by
  cases e : signsFrom (t.drop m) (q + m) with
  | nil =>
    have h1 := sg_nil e
    have h2 := sg_nil (h.trans e)
    rw [List.drop_eq_nil_iff] at h1 h2
    omega
  | cons x r =>
    have h1 := (sg_head e).1
    have h2 := (sg_head (h.trans e)).1
    omega
theorem tok_kind0 {l : List UInt8} {k : Tk} (h : tokOf l = some k) : 0 ≤ k.kind := by
  have hk : ∀ l, 0 ≤ kwd l := by
    intro l
    unfold kwd
    repeat' split
    all_goals decide
  have hr : ∀ l k, runTk l = some k → 0 ≤ k.kind := by
    intro l k h
    unfold runTk at h
    obtain ⟨r, hr, rfl⟩ := Option.map_eq_some_iff.1 h
    split
    · show (0 : Int) ≤ 2; omega
    · exact hk _
  have hn : ∀ (kind : Int) (u : List UInt8) (m : Nat) (k : Tk), 0 ≤ kind → numTk kind u m = some k → 0 ≤ k.kind := by
    intro kind u m k h0 h
    unfold numTk at h
    split at h
    · cases h; exact h0
    · cases h
  cases l with
  | nil => cases h
  | cons c t =>
    rw [tokOf] at h
    split at h
    · rename_i hs
      cases h
      have := singleK_pos hs
      show 0 ≤ singleK c
      omega
    · repeat' split at h
      all_goals first
        | exact hr _ _ h
        | exact hn _ _ _ _ (by decide) h
        | (cases h; show (0 : Int) ≤ 20; omega)
        | (obtain ⟨y, hy, rfl⟩ := Option.map_eq_some_iff.1 h; show (0 : Int) ≤ 3; omega)
theorem qS_len : ∀ (l : List Sg) (y : List UInt8 × Nat), qS l = some y → y.2 ≤ l.length
  | [], y, h => by cases h
  | x :: r, y, h => by
    rw [qS] at h
    split at h
    · cases h; simp
    · split at h
      · cases h
      · obtain ⟨z, hz, rfl⟩ := Option.map_eq_some_iff.1 h
        have := qS_len r z hz
        simp only [List.length_cons]; omega
theorem rS_len : ∀ (l : List Sg) (ds : List Sg), rS l = some ds → ds.length ≤ l.length
  | [], ds, h => by cases h; exact Nat.le_refl _
  | x :: r, ds, h => by
    rw [rS] at h
    split at h
    · split at h
      · cases h
      · obtain ⟨z, hz, rfl⟩ := Option.map_eq_some_iff.1 h
        have := rS_len r z hz
        simp only [List.length_cons]; omega
    · cases h; simp
theorem dgS_le (l : List Sg) : (dgS l).length ≤ l.length := (List.takeWhile_prefix _).length_le
theorem oneS_len {l : List Sg} {kind n : Int} {t : List UInt8} {k : Nat} (h : oneS l = some (kind, t, n, k)) : k ≤ l.length := by
  cases l with
  | nil => cases h
  | cons x r =>
    have hd := dgS_le r
    rw [oneS_cons] at h
    rw [List.length_cons]
    split at h
    · cases h; omega
    · split at h
      · split at h
        · cases h
        · cases h; omega
      · split at h
        · cases r with
          | nil => cases h
          | cons y r2 =>
            have hd2 := dgS_le r2
            rw [List.length_cons] at hd ⊢
            simp only [] at h
            split at h
            · split at h
              · cases h
              · cases h; omega
            · split at h
              · cases h
              · cases h; omega
        · split at h
          · split at h
            · cases h
            · cases h; omega
          · split at h
            · cases hq : qS r with
              | none => rw [hq] at h; cases h
              | some y =>
                rw [hq] at h
                have := qS_len _ _ hq
                cases h; omega
            · cases hq : rS (x :: r) with
              | none => rw [hq] at h; cases h
              | some ds =>
                rw [hq] at h
                have := rS_len _ _ hq
                rw [List.length_cons] at this
                simp only [] at h
                split at h
                · cases h; omega
                · split at h
                  · cases h; omega
                  · cases h; omega
/-- Where the signs stand: at place p of the text. -/
structure SgPos (s : ByteArray) (i p : Nat) : Prop where
  le : p ≤ s.size
  eq : (signs s.data.toList).drop i = signsFrom (s.data.toList.drop p) p
section
variable {s : ByteArray} {i p : Nat} {x : Sg}
theorem SgPos.lt (h : SgPos s i p) (hi : i < (signs s.data.toList).length) : p < s.size := by
  have h1 := h.eq
  rw [List.drop_eq_getElem_cons hi] at h1
  have h2 := (sg_head h1.symm).2
  rw [List.length_drop, ← ba_size] at h2
  omega
theorem SgPos.stop (h : SgPos s i p) (hi : ¬ i < (signs s.data.toList).length) : ¬ p < s.size := by
  have h1 := h.eq
  rw [List.drop_eq_nil_of_le (by omega)] at h1
  have h2 := sg_nil h1.symm
  rw [List.drop_eq_nil_iff, ← ba_size] at h2
  omega
theorem SgPos.place (h : SgPos s i p) (hx : (signs s.data.toList)[i]? = some x) : x.place = p := by
  obtain ⟨hi, rfl⟩ := List.getElem?_eq_some_iff.1 hx
  have h1 := h.eq
  rw [List.drop_eq_getElem_cons hi] at h1
  exact (sg_head h1.symm).1
theorem SgPos.blank (h : SgPos s i p) (hp : p < s.size) (hc : cls s[p] = 1) (hx : (signs s.data.toList)[i]? = some x) : x.letter = false ∧ x.c = s[p] ∧ SgPos s (i + 1) (p + 1) := by
  obtain ⟨hi, rfl⟩ := List.getElem?_eq_some_iff.1 hx
  have h92 : s[p] ≠ 92 := by intro e; rw [e] at hc; exact absurd hc (by decide)
  have h1 := h.eq
  rw [List.drop_eq_getElem_cons hi, dropB s hp, sg_ne _ _ h92] at h1
  injection h1 with h1 h2
  refine ⟨by rw [h1], by rw [h1], by omega, h2⟩
theorem SgPos.notBlank (h : SgPos s i p) (hp : p < s.size) (hc : cls s[p] ≠ 1) (hx : (signs s.data.toList)[i]? = some x) : x.letter = true ∨ (x.letter = false ∧ cls x.c ≠ 1) := by
  obtain ⟨hi, rfl⟩ := List.getElem?_eq_some_iff.1 hx
  have h1 := h.eq
  rw [List.drop_eq_getElem_cons hi, dropB s hp] at h1
  generalize s.data.toList.drop (p + 1) = t at h1
  by_cases h92 : s[p] = 92
  · rw [h92] at h1
    cases t with
    | nil => injection h1 with h1 h2; rw [h1]; exact .inr ⟨rfl, show cls 92 ≠ 1 from by decide⟩
    | cons d t => rw [sg_es] at h1; injection h1 with h1 h2; rw [h1]; exact .inl rfl
  · rw [sg_ne _ _ h92] at h1
    injection h1 with h1 h2
    rw [h1]; exact .inr ⟨rfl, hc⟩
theorem SgPos.none (h : SgPos s i p) (hp : p < s.size) (hc : cls s[p] ≠ 1) (ho : oneS ((signs s.data.toList).drop i) = none) : sTok s p = none := by
  rw [h.eq, dropB s hp] at ho
  have h1 := oneS_eq s[p] (s.data.toList.drop (p + 1)) p hc
  unfold sTok
  rw [dropB s hp]
  cases ht : tokOf (s[p] :: s.data.toList.drop (p + 1)) with
  | none => rfl
  | some tk =>
    rw [ht] at h1
    obtain ⟨k, h2, h3, h4⟩ := h1
    rw [h2] at ho; cases ho
theorem SgPos.tok (h : SgPos s i p) (hp : p < s.size) (hc : cls s[p] ≠ 1) {kind n : Int} {t : List UInt8} {k : Nat} (ho : oneS ((signs s.data.toList).drop i) = some (kind, t, n, k)) :
    ∃ (m e : Nat) (y : Sg), i + k = m + 1 ∧ i ≤ m ∧ (signs s.data.toList)[m]? = some y ∧ y.place + y.size = e ∧ p < e ∧ sTok s p = some ⟨kind, t, n, p, e⟩ ∧ 0 ≤ kind ∧ SgPos s (m + 1) e := by
  have hE := h.eq
  rw [h.eq, dropB s hp] at ho
  have h1 := oneS_eq s[p] (s.data.toList.drop (p + 1)) p hc
  cases ht : tokOf (s[p] :: s.data.toList.drop (p + 1)) with
  | none => rw [ht] at h1; rw [h1] at ho; cases ho
  | some tk =>
    rw [ht] at h1
    obtain ⟨k', h2, h3, h4⟩ := h1
    rw [h2] at ho
    injection ho with ho
    simp only [Prod.mk.injEq] at ho
    obtain ⟨rfl, rfl, rfl, rfl⟩ := ho
    have hl := tok_len ht (fun c hh => by cases hh; exact hc)
    rw [← dropB s hp, List.length_drop, ← ba_size] at hl
    have hst : sTok s p = some ⟨tk.kind, tk.text, tk.n, p, p + tk.len⟩ := by
      unfold sTok; rw [dropB s hp, ht]; rfl
    rw [← dropB s hp] at h4
    -- the last sign
    have hk := oneS_len h2
    rw [← dropB s hp] at hk
    obtain ⟨j, rfl⟩ : ∃ j, k' = j + 1 := ⟨k' - 1, by omega⟩
    obtain ⟨y, hy⟩ : ∃ y, (signsFrom (s.data.toList.drop p) p)[j]? = some y := ⟨_, List.getElem?_eq_getElem (by omega)⟩
    obtain ⟨n, g1, g2, g3⟩ := sg_ends _ _ _ _ hy
    rw [h4] at g2
    have hnm := sg_same (by rw [List.length_drop, ← ba_size]; omega) g1 g2
    subst hnm
    refine ⟨i + j, p + tk.len, y, by omega, by omega, ?_, g3, by omega, hst, tok_kind0 ht, by omega, ?_⟩
    · rw [← hE, List.getElem?_drop] at hy; exact hy
    · rw [Nat.add_assoc, ← List.drop_drop, hE, h4, List.drop_drop]
end
end Go.Proofs.YtlgcofinmpckkaaDoor
