/- Plain laws of the scan: a text that is cut behind a token; the place of a fault. -/
import Derived.Test.YtlgcofinmpckkaaDoorSp
namespace Go.Proofs.YtlgcofinmpckkaaDoor
open Go.RowKit
set_option maxRecDepth 100000

theorem quotedL_cut : ∀ (a b : List UInt8) (x : List UInt8 × Nat), quotedL (a ++ b) = some x → x.2 ≤ a.length → quotedL a = some x
  | [], b, x, h, hl => by have := quotedL_len _ _ h; simp at hl; omega
  | [c], [], x, h, hl => by simpa using h
  | [c], d :: t, x, h, hl => by
    rw [List.singleton_append, quotedL] at h
    simp only [List.length_singleton] at hl
    split at h
    · rename_i hc
      cases h; unfold quotedL; rw [if_pos hc]
    · split at h
      · obtain ⟨y, hy, rfl⟩ := Option.map_eq_some_iff.1 h
        simp at hl
      · obtain ⟨y, hy, rfl⟩ := Option.map_eq_some_iff.1 h
        have := quotedL_len _ _ hy
        simp only at hl; omega
  | c :: d :: t, b, x, h, hl => by
    rw [List.cons_append, List.cons_append, quotedL] at h
    simp only [List.length_cons] at hl
    rw [quotedL]
    split at h
    · rename_i hc; cases h; rw [if_pos hc]
    · rename_i hc
      rw [if_neg hc]
      split at h
      · rename_i hd
        obtain ⟨y, hy, rfl⟩ := Option.map_eq_some_iff.1 h
        rw [if_pos hd, quotedL_cut t b y hy (by simp only at hl; omega)]; rfl
      · rename_i hd
        obtain ⟨y, hy, rfl⟩ := Option.map_eq_some_iff.1 h
        rw [if_neg hd, quotedL_cut (d :: t) b y (by rw [List.cons_append]; exact hy) (by simp only [List.length_cons] at hl ⊢; omega)]; rfl
theorem Rn_add_zero (x : Rn) : Rn.add x ⟨[], [], 0, 0⟩ = x := by simp [Rn.add]
theorem runL_zero {l : List UInt8} {r : Rn} (h : runL l = some r) (h0 : r.len = 0) : r = ⟨[], [], 0, 0⟩ := by
  match l, h with
  | [], h => unfold runL at h; cases h; rfl
  | [c], h =>
    unfold runL at h
    repeat' split at h
    all_goals first | (cases h; done) | (cases h; rfl) | (cases h; simp at h0)
  | c :: d :: t, h =>
    unfold runL at h
    split at h
    · cases h; rfl
    · repeat' split at h
      all_goals
        obtain ⟨y, hy, rfl⟩ := Option.map_eq_some_iff.1 h
        simp only [Rn.add] at h0
        omega
theorem runL_cut : ∀ (a b : List UInt8) (r : Rn), runL (a ++ b) = some r → r.len ≤ a.length → runL a = some r
  | [], b, r, h, hl => by rw [runL_zero h (by simpa using hl)]; rfl
  | [c], [], r, h, hl => by simpa using h
  | [c], d :: t, r, h, hl => by
    rw [List.singleton_append, runL] at h
    simp only [List.length_singleton] at hl
    unfold runL
    split at h
    · rename_i hc; cases h; rw [if_pos hc]
    · rename_i hc
      rw [if_neg hc]
      split at h
      · rename_i h3
        obtain ⟨y, hy, rfl⟩ := Option.map_eq_some_iff.1 h
        simp only [Rn.add] at hl
        rw [if_pos h3, runL_zero hy (by omega), Rn_add_zero]
      · rename_i h3
        rw [if_neg h3]
        split at h
        · obtain ⟨y, hy, rfl⟩ := Option.map_eq_some_iff.1 h
          simp only [Rn.add] at hl; omega
        · rename_i h4
          obtain ⟨y, hy, rfl⟩ := Option.map_eq_some_iff.1 h
          simp only [Rn.add] at hl
          rw [if_neg h4, runL_zero hy (by omega), Rn_add_zero]
  | c :: d :: t, b, r, h, hl => by
    rw [List.cons_append, List.cons_append, runL] at h
    simp only [List.length_cons] at hl
    rw [runL]
    split at h
    · rename_i hc; cases h; rw [if_pos hc]
    · rename_i hc
      rw [if_neg hc]
      split at h
      · rename_i h3
        obtain ⟨y, hy, rfl⟩ := Option.map_eq_some_iff.1 h
        simp only [Rn.add] at hl
        rw [if_pos h3, runL_cut (d :: t) b y (by rw [List.cons_append]; exact hy) (by simp only [List.length_cons]; omega)]; rfl
      · rename_i h3
        rw [if_neg h3]
        split at h
        · rename_i h4
          obtain ⟨y, hy, rfl⟩ := Option.map_eq_some_iff.1 h
          simp only [Rn.add] at hl
          rw [if_pos h4, runL_cut t b y hy (by omega)]; rfl
        · rename_i h4
          obtain ⟨y, hy, rfl⟩ := Option.map_eq_some_iff.1 h
          simp only [Rn.add] at hl
          rw [if_neg h4, runL_cut (d :: t) b y (by rw [List.cons_append]; exact hy) (by simp only [List.length_cons]; omega)]; rfl
theorem digs_cut (a b : List UInt8) (h : (digs (a ++ b)).length ≤ a.length) : digs a = digs (a ++ b) := by
  induction a with
  | nil =>
    have : digs ([] ++ b) = [] := List.eq_nil_of_length_eq_zero (by simpa using h)
    rw [this]; rfl
  | cons c a ih =>
    unfold digs at *
    rw [List.cons_append, List.takeWhile_cons] at h
    rw [List.cons_append, List.takeWhile_cons, List.takeWhile_cons]
    split
    · rename_i hc
      rw [if_pos hc] at h
      simp only [List.length_cons] at h
      rw [ih (by omega)]
    · rfl
theorem numTk_cut {kind : Int} {a b : List UInt8} {m : Nat} {k : Tk} (h : numTk kind (a ++ b) m = some k) (hl : k.len ≤ m + a.length) : numTk kind a m = some k := by
  unfold numTk numOkB at h ⊢
  split at h
  · rename_i hn
    cases h
    have hd := digs_cut a b (by simp only at hl; omega)
    rw [hd, if_pos hn]
  · cases h
theorem tok_cut {c : UInt8} {a b : List UInt8} {k : Tk} (h : tokOf (c :: (a ++ b)) = some k) (hl : k.len ≤ a.length + 1) : tokOf (c :: a) = some k := by
  simp only [tokOf] at h ⊢
  split at h
  · rename_i hs; rw [if_pos hs]; exact h
  · rename_i hs
    rw [if_neg hs]
    split at h
    · rename_i hc
      obtain ⟨y, hy, rfl⟩ := Option.map_eq_some_iff.1 h
      rw [if_pos hc, quotedL_cut a b y hy (by simp only at hl; omega)]; rfl
    · rename_i hc
      rw [if_neg hc]
      split at h
      · rename_i h94
        rw [if_pos h94]
        cases a with
        | nil =>
          split at h
          · have := numTk_len h; simp only [List.length_nil] at hl; omega
          · have := numTk_len h; simp only [List.length_nil] at hl; omega
        | cons d a =>
          simp only [List.cons_append, List.head?_cons, List.drop_succ_cons, List.drop_zero, List.length_cons] at h hl ⊢
          split at h
          · rename_i h61
            rw [if_pos h61]
            exact numTk_cut h (by omega)
          · rename_i h61
            rw [if_neg h61]
            exact numTk_cut (a := d :: a) (by rw [List.cons_append]; exact h) (by simp only [List.length_cons]; omega)
      · rename_i h94
        rw [if_neg h94]
        split at h
        · rename_i h126
          rw [if_pos h126]
          split at h
          · rename_i hd
            rw [if_pos (by rw [digs_cut a b (by rw [hd]; simp), hd])]; exact h
          · rename_i hd
            have hn := numTk_cut h (by omega)
            rw [if_neg ?_]; exact hn
            intro h0
            unfold numTk numOkB at hn
            rw [h0] at hn
            simp at hn
        · rename_i h126
          rw [if_neg h126]
          split at h
          · rename_i h64
            rw [if_pos h64]
            exact numTk_cut h (by omega)
          · rename_i h64
            rw [if_neg h64]
            unfold runTk at h ⊢
            obtain ⟨r, hr, rfl⟩ := Option.map_eq_some_iff.1 h
            have hlen : r.len ≤ (c :: a).length := by
              rw [List.length_cons]
              split at hl <;> exact hl
            rw [← List.cons_append] at hr
            rw [runL_cut (c :: a) b r hr hlen]
            simp only [Option.map_some]
            rw [← List.cons_append, List.take_append_of_le_length hlen]

/-- Where a fault is: no blank there, and no token. -/
theorem scanF_some : ∀ (f : Nat) (l : List UInt8) (i p : Nat), l.length < f → (scanF f l i).2 = some p → i ≤ p ∧ p - i < l.length ∧ ∃ c t, l.drop (p - i) = c :: t ∧ cls c ≠ 1 ∧ tokOf (c :: t) = none
  | 0, l, i, p, hf, h => by omega
  | f + 1, [], i, p, hf, h => by cases h
  | f + 1, c :: t, i, p, hf, h => by
    rw [scanF] at h
    simp only [List.length_cons] at hf ⊢
    split at h
    · obtain ⟨g1, g2, x, y, g3, g4, g5⟩ := scanF_some f t (i + 1) p (by omega) h
      refine ⟨by omega, by omega, x, y, ?_, g4, g5⟩
      rw [show p - i = (p - (i + 1)) + 1 from by omega, List.drop_succ_cons]; exact g3
    · rename_i hc
      split at h
      · rename_i ht
        cases h
        rw [Nat.sub_self]
        exact ⟨Nat.le_refl _, by omega, c, t, rfl, hc, ht⟩
      · rename_i k ht
        have hk := tok_len ht (fun d hd => by cases hd; exact hc)
        simp only [List.length_cons] at hk
        have h2 : (scanF f ((c :: t).drop k.len) (i + k.len)).2 = some p := by
          rcases hr : scanF f ((c :: t).drop k.len) (i + k.len) with ⟨u, v⟩
          rw [hr] at h
          cases v with
          | none => simp [ahead] at h
          | some z => simpa [ahead] using h
        have hd : ((c :: t).drop k.len).length < f := by rw [List.length_drop, List.length_cons]; omega
        obtain ⟨g1, g2, x, y, g3, g4, g5⟩ := scanF_some f _ (i + k.len) p hd h2
        rw [List.length_drop, List.length_cons] at g2
        refine ⟨by omega, by omega, x, y, ?_, g4, g5⟩
        rw [List.drop_drop, show k.len + (p - (i + k.len)) = p - i from by omega] at g3
        exact g3
/-- Ahead of a fault there is none. -/
theorem scanF_pre : ∀ (f : Nat) (l : List UInt8) (i p f' : Nat), l.length < f → (scanF f l i).2 = some p → p - i < f' → (scanF f' (l.take (p - i)) i).2 = none
  | 0, l, i, p, f', hf, h, hf' => by omega
  | f + 1, [], i, p, f', hf, h, hf' => by cases h
  | f + 1, c :: t, i, p, 0, hf, h, hf' => by omega
  | f + 1, c :: t, i, p, g + 1, hf, h, hf' => by
    rw [scanF] at h
    simp only [List.length_cons] at hf
    split at h
    · rename_i hc
      obtain ⟨g1, g2, _⟩ := scanF_some f t (i + 1) p (by omega) h
      rw [show p - i = (p - (i + 1)) + 1 from by omega, List.take_succ_cons, scanF, if_pos hc]
      exact scanF_pre f t (i + 1) p g (by omega) h (by omega)
    · rename_i hc
      split at h
      · cases h
        rw [Nat.sub_self, List.take_zero]; rfl
      · rename_i k ht
        have hk := tok_len ht (fun d hd => by cases hd; exact hc)
        simp only [List.length_cons] at hk
        have h2 : (scanF f ((c :: t).drop k.len) (i + k.len)).2 = some p := by
          rcases hr : scanF f ((c :: t).drop k.len) (i + k.len) with ⟨u, v⟩
          rw [hr] at h
          cases v with
          | none => simp [ahead] at h
          | some z => simpa [ahead] using h
        have hd : ((c :: t).drop k.len).length < f := by rw [List.length_drop, List.length_cons]; omega
        obtain ⟨g1, g2, _⟩ := scanF_some f _ (i + k.len) p hd h2
        rw [List.length_drop, List.length_cons] at g2
        have hrec := scanF_pre f _ (i + k.len) p g hd h2 (by omega)
        obtain ⟨n, hn⟩ : ∃ n, p - i = n + 1 := ⟨p - i - 1, by omega⟩
        have ht2 : tokOf (c :: t.take n) = some k := tok_cut (b := t.drop n) (by rw [List.take_append_drop]; exact ht) (by rw [List.length_take]; omega)
        rw [hn, List.take_succ_cons, scanF, if_neg hc, ht2]
        simp only []
        rw [← List.take_succ_cons, ← hn, List.drop_take, show p - i - k.len = p - (i + k.len) from by omega]
        rcases hr : scanF g (((c :: t).drop k.len).take (p - (i + k.len))) (i + k.len) with ⟨u, v⟩
        rw [hr] at hrec
        cases v with
        | none => rfl
        | some z => cases hrec
theorem scanL_some {q : List UInt8} {p : Nat} (h : (scanL q).2 = some p) : p < q.length ∧ (∃ c t, q.drop p = c :: t ∧ cls c ≠ 1) ∧ (scanL (q.take p)).2 = none ∧ scanL (q.drop p) = ([], some 0) := by
  unfold scanL at h
  obtain ⟨_, g2, c, t, g3, g4, g5⟩ := scanF_some _ q 0 p (by omega) h
  have g6 := scanF_pre _ q 0 p ((q.take p).length + 1) (by omega) h (by rw [List.length_take]; omega)
  rw [Nat.sub_zero] at g2 g3 g6
  refine ⟨g2, ⟨c, t, g3, g4⟩, g6, ?_⟩
  rw [g3]
  unfold scanL
  rw [scanF, if_neg g4, g5]
end Go.Proofs.YtlgcofinmpckkaaDoor
