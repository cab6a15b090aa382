/- Merged for a claim by shake.py: Gc Ma Ya Rw Mn -/
import Derived.Test.YtcomdkejpaoneaaDoorKe1
import Derived.Test.YtcomdkejpaoneaaDoorKe5
import Derived.Test.YtcomdkejpaoneaaDoorKe8
section
namespace Go.Proofs.YtcomdkejpaoneaaDoor
set_option linter.unusedSimpArgs false
set_option linter.unusedVariables false
def Aft (m m' : Mc) (n : Nat) : Prop := m'.below = m.below ∧ m'.at_.most = m.at_.most ∧ m'.at_.signed = m.at_.signed ∧ m'.at_.nots + m'.nest = m.at_.nots + n ∧ 4 ≤ m'.state ∧ m'.state ≤ 9
def begT (t : Lt) : Prop := t.kind = 1 ∨ t.kind = 2 ∨ t.kind = 3 ∨ t.kind = 6 ∨ t.kind = 8 ∨ t.kind = 10 ∨ t.kind = 12 ∨ t.kind = 15 ∨ t.kind = 16
def Okk : Pt → List Lt → Nat → Prop
  | .leaf, A, n => (∀ m, m.state = 1 ∨ m.state = 2 → m.nest = 0 → ∃ m', runM m A = some m' ∧ Aft m m' n)
  | .group, A, n => (∀ m, m.state = 1 ∨ m.state = 2 → m.nest = 0 → ∃ m', runM m A = some m' ∧ Aft m m' n)
  | .body, A, n => (∀ m, m.state = 1 ∨ m.state = 2 → m.nest = 0 → ∃ m', runM m A = some m' ∧ Aft m m' n)
  | .clause, A, n => (∃ t r, A = t :: r ∧ begT t) ∧ (∀ m, m.state = 0 → m.nest = 0 → m.at_.nots = 0 → ∃ m', runM m A = some m' ∧ m'.below = m.below ∧ max m'.at_.most (m'.at_.nots + m'.nest) = max m.at_.most n ∧ 4 ≤ m'.state ∧ m'.state ≤ 9)
  | .list, A, n => (∃ t r, A = t :: r ∧ begT t) ∧ (∀ m, m.state = 0 → m.nest = 0 → m.at_.nots = 0 → ∃ m', runM m A = some m' ∧ m'.below = m.below ∧ max m'.at_.most (m'.at_.nots + m'.nest) = max m.at_.most n ∧ 4 ≤ m'.state ∧ m'.state ≤ 9)
  | .atom, A, n => (∃ t r, A = t :: r ∧ begT t ∧ t.kind ≠ 15 ∧ t.kind ≠ 16) ∧ (∀ m, m.state = 1 → m.nest = 0 → ∃ m', runM m A = some m' ∧ Aft m m' n)
  | .piece, A, n => (∃ t r, A = t :: r ∧ begT t ∧ t.kind ≠ 15 ∧ t.kind ≠ 16) ∧ (∀ m, m.state = 1 → m.nest = 0 → ∃ m', runM m A = some m' ∧ Aft m m' n)
  | .unary, A, n => (∃ t r, A = t :: r ∧ begT t ∧ t.kind ≠ 15 ∧ t.kind ≠ 16) ∧ (∀ m, m.state = 1 → m.nest = 0 → ∃ m', runM m A = some m' ∧ Aft m m' n)
  | _, A, n => (∃ t r, A = t :: r ∧ begT t ∧ t.kind ≠ 15 ∧ t.kind ≠ 16) ∧ (∀ m, m.state = 1 → m.nest = 0 → m.at_.nots = 0 → m.at_.signed = false → ∃ m', runM m A = some m' ∧ m'.below = m.below ∧ m'.at_.signed = false ∧ max m'.at_.most (m'.at_.nots + m'.nest) = max m.at_.most n ∧ 4 ≤ m'.state ∧ m'.state ≤ 9)
theorem step_body {m : Mc} (t : Lt) (h : m.state = 2) : stepM m t = bodyM m t := by unfold stepM; simp [h]
theorem step_unary {m : Mc} (t : Lt) (h : m.state = 1) : stepM m t = unaryM m t := by unfold stepM; simp [h]
theorem step_clause {m : Mc} (t : Lt) (h : m.state = 0) : stepM m t = clauseM m t := by unfold stepM; simp [h]
theorem step_after {m : Mc} (t : Lt) (h : 4 ≤ m.state) (h2 : m.state ≤ 9) : stepM m t = afterM m t := by
  unfold stepM
  rw [if_neg (by omega), if_neg (by omega), if_neg (by omega), if_neg (by omega), if_neg (by omega), if_neg (by omega), if_neg (by omega), if_neg (by omega), if_neg (by omega)]
theorem step_word {m : Mc} {t : Lt} (h : m.state = 1 ∨ m.state = 2) (ht : t.kind = 1) : ∃ s, (s = 4 ∨ s = 5) ∧ stepM m t = some (m.to s) := by
  rcases h with h | h
  · exact ⟨4, .inl rfl, by rw [step_unary t h]; unfold unaryM; simp [ht]⟩
  · exact ⟨5, .inr rfl, by rw [step_body t h]; unfold bodyM; simp [ht]⟩
theorem starT_no {t : Lt} (h : t.kind ≠ 2) : starT t = false := by simp [starT, h]
theorem unary_body {m : Mc} {t : Lt} (h6 : t.kind ≠ 6) (h1 : t.kind ≠ 1) (h2 : starT t = false) : unaryM m t = bodyM m t := by
  unfold unaryM; simp [h6, h1, h2]
theorem step_open {m : Mc} {t : Lt} (h : m.state = 1 ∨ m.state = 2) (ht : t.kind = 8) : stepM m t = some ⟨0, m.nest, lev0, m.below ++ [m.at_]⟩ := by
  have hb : bodyM m t = some ⟨0, m.nest, lev0, m.below ++ [m.at_]⟩ := by unfold bodyM; simp [ht]
  rcases h with h | h
  · rw [step_unary t h, unary_body (by omega) (by omega) (starT_no (by omega)), hb]
  · rw [step_body t h, hb]
theorem step_quo {m : Mc} {t : Lt} (h : m.state = 1 ∨ m.state = 2) (ht : t.kind = 3) : stepM m t = some (m.to 7) := by
  have hb : bodyM m t = some (m.to 7) := by unfold bodyM; simp [ht]
  rcases h with h | h
  · rw [step_unary t h, unary_body (by omega) (by omega) (starT_no (by omega)), hb]
  · rw [step_body t h, hb]
theorem step_square {m : Mc} {t : Lt} (h : m.state = 1 ∨ m.state = 2) (ht : t.kind = 10 ∨ t.kind = 12) : stepM m t = some (m.to 10) := by
  have hb : bodyM m t = some (m.to 10) := by unfold bodyM; rcases ht with ht | ht <;> simp [ht]
  rcases h with h | h
  · rw [step_unary t h, unary_body (by omega) (by omega) (starT_no (by omega)), hb]
  · rw [step_body t h, hb]
theorem step_pat {m : Mc} {t : Lt} (h : m.state = 1 ∨ m.state = 2) (ht : t.kind = 2) : ∃ s, (s = 6 ∨ s = 9) ∧ stepM m t = some (m.to s) := by
  have hb : bodyM m t = some (m.to 9) := by unfold bodyM; simp [ht]
  rcases h with h | h
  · by_cases hs : starT t = true
    · exact ⟨6, .inl rfl, by rw [step_unary t h]; unfold unaryM; simp [ht, hs]⟩
    · exact ⟨9, .inr rfl, by rw [step_unary t h, unary_body (by omega) (by omega) (by simpa using hs), hb]⟩
  · exact ⟨9, .inr rfl, by rw [step_body t h, hb]⟩
theorem aft_to {m : Mc} {s : Nat} (hn : m.nest = 0) (h4 : 4 ≤ s) (h9 : s ≤ 9) : Aft m (m.to s) 0 := ⟨rfl, rfl, rfl, by show m.at_.nots + m.nest = _; rw [hn], h4, h9⟩
theorem runM_one {m m' : Mc} {t : Lt} (h : stepM m t = some m') : runM m [t] = some m' := by rw [runM, h]; rfl
theorem runM_cons {m m' : Mc} {t : Lt} {r : List Lt} (h : stepM m t = some m') : runM m (t :: r) = runM m' r := by rw [runM, h]; rfl
theorem tilde_word {m : Mc} {u : Lt} {s : Nat} (hs : s = 4 ∨ s = 5) (hu : u.kind = 20) (hn : u.n = -1 ∨ u.n = 1 ∨ u.n = 2) : stepM (m.to s) u = some (m.to 9) := by
  have h1 : (m.to s).state = 4 ∨ (m.to s).state = 5 := hs
  rw [step_after u (by omega) (by omega)]
  unfold afterM
  rw [if_neg (by omega), if_neg (by omega), if_pos hu, if_pos (.inl ⟨h1, hn⟩)]; rfl
theorem tilde_quo {m : Mc} {u : Lt} (hu : u.kind = 20) (hn : 0 ≤ u.n) : stepM (m.to 7) u = some (m.to 9) := by
  have h1 : (m.to 7).state = 7 := rfl
  rw [step_after u (by omega) (by omega)]
  unfold afterM
  rw [if_neg (by omega), if_neg (by omega), if_pos hu, if_pos (.inr ⟨h1, hn⟩)]; rfl
theorem after_clause {m : Mc} {t : Lt} (h4 : 4 ≤ m.state) (h9 : m.state ≤ 9) (ht : begT t) : stepM m t = clauseM (m.close.to 0) t := by
  rw [step_after t h4 h9]
  unfold afterM
  unfold begT at ht
  rw [if_neg (by omega), if_neg (by omega), if_neg (by omega), if_neg (by omega), if_neg (by omega), if_neg (by omega), if_neg (by omega), if_neg (by omega)]
theorem after_mark {m : Mc} {t : Lt} (h4 : 4 ≤ m.state) (h9 : m.state ≤ 9) (ht : t.kind = 4 ∨ t.kind = 5 ∨ t.kind = 17) (hs : m.at_.signed = false) : stepM m t = some (m.close.to 1) := by
  rw [step_after t h4 h9]
  unfold afterM
  rw [if_neg (by omega), if_neg (by omega), if_neg (by omega), if_neg (by omega), if_neg (by omega), if_pos ht, if_neg (by simp [hs])]
theorem after_sfx {m : Mc} {t : Lt} (h4 : 4 ≤ m.state) (h9 : m.state ≤ 9) (ht : t.kind = 18 ∨ t.kind = 19) : stepM m t = some ⟨9, m.nest + 1, m.at_, m.below⟩ := by
  rw [step_after t h4 h9]
  unfold afterM
  rw [if_neg (by omega), if_neg (by omega), if_neg (by omega), if_neg (by omega), if_pos ht]
theorem after_shut {m : Mc} {t : Lt} {bl : List Lev} {lv : Lev} (h4 : 4 ≤ m.state) (h9 : m.state ≤ 9) (ht : t.kind = 9) (hb : m.below = bl ++ [lv]) : stepM m t = some ⟨8, max m.at_.most (m.at_.nots + m.nest) + 1, lv, bl⟩ := by
  rw [step_after t h4 h9]
  unfold afterM
  rw [if_neg (by omega), if_neg (by omega), if_neg (by omega), if_neg (by omega), if_neg (by omega), if_neg (by omega), if_neg (by omega), if_pos ht]
  unfold shutM
  rw [hb, List.getLast?_concat, List.dropLast_concat]
theorem after_end {m : Mc} {t : Lt} (h4 : 4 ≤ m.state) (h9 : m.state ≤ 9) (ht : t.kind = 0) (hb : m.below = []) : stepM m t = some (m.close.to 14) := by
  rw [step_after t h4 h9]
  unfold afterM
  rw [if_neg (by omega), if_neg (by omega), if_neg (by omega), if_neg (by omega), if_neg (by omega), if_neg (by omega), if_pos ht, if_pos hb]
theorem run_inner {m : Mc} {o c : Lt} {A : List Lt} {n : Nat} (hm : m.state = 1 ∨ m.state = 2) (hn : m.nest = 0) (ho : o.kind = 8) (hc : c.kind = 9) (hA : Okk .list A n) : runM m (o :: (A ++ [c])) = some ⟨8, n + 1, m.at_, m.below⟩ := by
  rw [runM_cons (step_open hm ho), runM_append]
  obtain ⟨m1, h1, h2, h3, h4, h5⟩ := hA.2 ⟨0, m.nest, lev0, m.below ++ [m.at_]⟩ rfl hn rfl
  rw [h1]
  show runM m1 [c] = _
  rw [runM_one (after_shut h4 h5 hc h2), h3]
  show some (Mc.mk 8 (max 0 n + 1) m.at_ m.below) = _
  rw [Nat.max_eq_right (Nat.zero_le n)]
theorem okk_chain1 {A : List Lt} {n : Nat} {p : Pt} (hp : p = .maxes ∨ p = .ands ∨ p = .ors) (h : Okk .unary A n) : Okk p A n := by
  have h0 : (∃ t r, A = t :: r ∧ begT t ∧ t.kind ≠ 15 ∧ t.kind ≠ 16) ∧ (∀ m, m.state = 1 → m.nest = 0 → m.at_.nots = 0 → m.at_.signed = false → ∃ m', runM m A = some m' ∧ m'.below = m.below ∧ m'.at_.signed = false ∧ max m'.at_.most (m'.at_.nots + m'.nest) = max m.at_.most n ∧ 4 ≤ m'.state ∧ m'.state ≤ 9) := by
    refine ⟨h.1, fun m h1 h2 h3 h4 => ?_⟩
    obtain ⟨m', e, a1, a2, a3, a4, a5, a6⟩ := h.2 m h1 h2
    exact ⟨m', e, a1, a3.trans h4, by rw [a2, a4, h3, Nat.zero_add], a5, a6⟩
  rcases hp with rfl | rfl | rfl <;> exact h0
theorem okk_chain2 {A B : List Lt} {b : Lt} {n k : Nat} {p q : Pt} (hp : p = .maxes ∨ p = .ands ∨ p = .ors) (hq : q = .unary ∨ q = .maxes ∨ q = .ands) (h : Okk p A n) (hb : b.kind = 4 ∨ b.kind = 5 ∨ b.kind = 17) (h2 : Okk q B k) : Okk p (A ++ b :: B) (max n k) := by
  have hA : (∃ t r, A = t :: r ∧ begT t ∧ t.kind ≠ 15 ∧ t.kind ≠ 16) ∧ (∀ m, m.state = 1 → m.nest = 0 → m.at_.nots = 0 → m.at_.signed = false → ∃ m', runM m A = some m' ∧ m'.below = m.below ∧ m'.at_.signed = false ∧ max m'.at_.most (m'.at_.nots + m'.nest) = max m.at_.most n ∧ 4 ≤ m'.state ∧ m'.state ≤ 9) := by
    rcases hp with rfl | rfl | rfl <;> exact h
  have hB : Okk .maxes B k := by
    rcases hq with rfl | rfl | rfl
    · exact okk_chain1 (.inl rfl) h2
    · exact h2
    · exact h2
  have h0 : (∃ t r, A ++ b :: B = t :: r ∧ begT t ∧ t.kind ≠ 15 ∧ t.kind ≠ 16) ∧ (∀ m, m.state = 1 → m.nest = 0 → m.at_.nots = 0 → m.at_.signed = false → ∃ m', runM m (A ++ b :: B) = some m' ∧ m'.below = m.below ∧ m'.at_.signed = false ∧ max m'.at_.most (m'.at_.nots + m'.nest) = max m.at_.most (max n k) ∧ 4 ≤ m'.state ∧ m'.state ≤ 9) := by
    obtain ⟨⟨t, r, rfl, ht⟩, hA⟩ := hA
    refine ⟨⟨t, r ++ b :: B, rfl, ht⟩, fun m h1 h2 h3 h4 => ?_⟩
    obtain ⟨m1, e1, a1, a2, a3, a4, a5⟩ := hA m h1 h2 h3 h4
    obtain ⟨m2, e2, b1, b2, b3, b4, b5⟩ := hB.2 (m1.close.to 1) rfl rfl rfl a2
    refine ⟨m2, ?_, b1.trans a1, b2, ?_, b4, b5⟩
    · rw [runM_append, e1]
      show runM m1 (b :: B) = _
      rw [runM_cons (after_mark a4 a5 hb a2), e2]
    · rw [b3]
      show max (max m1.at_.most (m1.at_.nots + m1.nest)) k = _
      rw [a3, Nat.max_assoc]
  rcases hp with rfl | rfl | rfl <;> exact h0
theorem unary_at0 {m : Mc} {t : Lt} (h0 : m.state = 0) (ht : t.kind ≠ 15 ∧ t.kind ≠ 16) : stepM m t = stepM ((m.sgn false).to 1) t := by
  rw [step_clause t h0, step_unary t rfl]
  unfold clauseM
  rw [if_neg (by omega)]
  unfold unaryM bodyM
  rfl
theorem D.okk {p : Pt} {A : List Lt} {n : Nat} {v : Vl} (h : D p A n v) : Okk p A n := by
  induction h with
  | word ht =>
    intro m hm hn
    obtain ⟨s, hs, e⟩ := step_word hm ht
    exact ⟨_, runM_one e, aft_to hn (by omega) (by omega)⟩
  | edits ht hu hk =>
    intro m hm hn
    obtain ⟨s, hs, e⟩ := step_word hm ht
    exact ⟨m.to 9, by rw [runM_cons e]; exact runM_one (tilde_word hs hu hk), aft_to hn (by omega) (by omega)⟩
  | pat ht =>
    intro m hm hn
    obtain ⟨s, hs, e⟩ := step_pat hm ht
    exact ⟨_, runM_one e, aft_to hn (by omega) (by omega)⟩
  | quo ht =>
    intro m hm hn
    exact ⟨_, runM_one (step_quo hm ht), aft_to hn (by omega) (by omega)⟩
  | slop ht hu hk =>
    intro m hm hn
    exact ⟨m.to 9, by rw [runM_cons (step_quo hm ht)]; exact runM_one (tilde_quo hu hk), aft_to hn (by omega) (by omega)⟩
  | span ha hb hc hd he =>
    intro m hm hn
    refine ⟨m.to 9, ?_, aft_to hn (by omega) (by omega)⟩
    rw [runM_cons (step_square hm ha), runM_cons (m' := m.to 11) (by unfold stepM sideM; simp [Mc.to, hb]),
      runM_cons (m' := m.to 12) (by unfold stepM; simp [Mc.to, hc]), runM_cons (m' := m.to 13) (by unfold stepM sideM; simp [Mc.to, hd]),
      runM_one (m' := m.to 9) (by unfold stepM; simp only [Mc.to, Nat.reduceEqDiff, if_false, if_true, reduceIte]; rw [if_pos he])]
  | group ho hA hc ih =>
    intro m hm hn
    exact ⟨_, run_inner hm hn ho hc ih, rfl, rfl, rfl, rfl, by show 4 ≤ 8; decide, by show 8 ≤ 9; decide⟩
  | @least o c l A n v ho hA hc hl ih =>
    intro m hm hn
    have e : o :: (A ++ [c, l]) = (o :: (A ++ [c])) ++ [l] := by simp
    refine ⟨⟨9, n + 1, m.at_, m.below⟩, ?_, rfl, rfl, rfl, rfl, by show 4 ≤ 9; decide, by show 9 ≤ 9; decide⟩
    rw [e, runM_append, run_inner hm hn ho hc ih]
    refine runM_one ?_
    rw [step_after l (by show 4 ≤ 8; decide) (by show 8 ≤ 9; decide)]
    unfold afterM
    rw [if_neg (by simp), if_neg (by simp), if_neg (by omega), if_pos ⟨rfl, hl⟩]; rfl
  | leafB _ ih => exact ih
  | groupB _ ih => exact ih
  | @bodyA A n v h ih =>
    refine ⟨?_, fun m h1 hn => ih m (.inl h1) hn⟩
    have hb : D .body A n v := h
    cases h with
    | leafB h =>
      cases h <;> exact ⟨_, _, rfl, by unfold begT; omega, by omega, by omega⟩
    | groupB h =>
      cases h <;> exact ⟨_, _, rfl, by unfold begT; omega, by omega, by omega⟩
  | @field w c A n v hw hc hA ih =>
    refine ⟨⟨_, _, rfl, by unfold begT; omega, by omega, by omega⟩, fun m h1 hn => ?_⟩
    obtain ⟨m', e, a⟩ := ih (m.to 2) (.inr rfl) hn
    refine ⟨m', ?_, a⟩
    rw [runM_cons (m' := m.to 4) (by rw [step_unary w h1]; unfold unaryM; simp [hw]), runM_cons (m' := m.to 2) ?_, e]
    rw [step_after c (by show 4 ≤ 4; decide) (by show 4 ≤ 9; decide)]
    unfold afterM
    rw [if_pos ⟨rfl, hc⟩]; rfl
  | @all s c t hs hc ht =>
    have hk : s.kind = 2 := by simp [starT] at hs; exact hs.1
    refine ⟨⟨_, _, rfl, by unfold begT; omega, by omega, by omega⟩, fun m h1 hn => ?_⟩
    refine ⟨m.to 9, ?_, aft_to hn (by omega) (by omega)⟩
    rw [runM_cons (m' := m.to 6) (by rw [step_unary s h1]; unfold unaryM; simp [hk, hs]), runM_cons (m' := m.to 3) ?_, runM_one (m' := m.to 9) (by unfold stepM; simp [Mc.to, ht])]
    rw [step_after c (by show 4 ≤ 6; decide) (by show 6 ≤ 9; decide)]
    unfold afterM
    rw [if_neg (by simp [Mc.to]), if_pos ⟨rfl, hc⟩]; rfl
  | atomP _ ih => exact ih
  | @sfx b A n v hA hb ih =>
    obtain ⟨⟨t, r, rfl, ht⟩, ih⟩ := ih
    refine ⟨⟨t, r ++ [b], rfl, ht⟩, fun m h1 hn => ?_⟩
    obtain ⟨m', e, a1, a2, a3, a4, a5, a6⟩ := ih m h1 hn
    refine ⟨⟨9, m'.nest + 1, m'.at_, m'.below⟩, ?_, a1, a2, a3, by show m'.at_.nots + (m'.nest + 1) = _; omega, by show 4 ≤ 9; decide, by show 9 ≤ 9; decide⟩
    rw [runM_append, e]
    exact runM_one (after_sfx a5 a6 hb)
  | pieceU _ ih => exact ih
  | @not t A n v ht hA ih =>
    refine ⟨⟨_, _, rfl, by unfold begT; omega, by omega, by omega⟩, fun m h1 hn => ?_⟩
    obtain ⟨m', e, a1, a2, a3, a4, a5, a6⟩ := ih.2 ⟨1, m.nest, ⟨m.at_.most, m.at_.nots + 1, m.at_.signed⟩, m.below⟩ rfl hn
    refine ⟨m', ?_, a1, a2, a3, by rw [a4]; show m.at_.nots + 1 + n = _; omega, a5, a6⟩
    rw [runM_cons ?_, e]
    rw [step_unary t h1]; unfold unaryM; rw [if_pos ht]
  | maxU _ ih => exact okk_chain1 (.inl rfl) ih
  | bar hA hb hB ih1 ih2 => exact okk_chain2 (.inl rfl) (.inl rfl) ih1 (by omega) ih2
  | andM _ ih => exact ih
  | and hA hb hB ih1 ih2 => exact okk_chain2 (.inr (.inl rfl)) (.inr (.inl rfl)) ih1 (by omega) ih2
  | orA _ ih => exact ih
  | or hA hb hB ih1 ih2 => exact okk_chain2 (.inr (.inr rfl)) (.inr (.inr rfl)) ih1 (by omega) ih2
  | clauseO _ ih =>
    obtain ⟨⟨t, r, rfl, ht, h15, h16⟩, ih⟩ := ih
    refine ⟨⟨t, r, rfl, ht⟩, fun m h0 hn hz => ?_⟩
    obtain ⟨m', e, a1, a2, a3, a4, a5⟩ := ih ((m.sgn false).to 1) rfl hn hz rfl
    refine ⟨m', ?_, a1, a3, a4, a5⟩
    rw [runM, unary_at0 h0 ⟨h15, h16⟩]
    exact e
  | @sign s A n v hs hA ih =>
    refine ⟨⟨s, A, rfl, by unfold begT; omega⟩, fun m h0 hn hz => ?_⟩
    obtain ⟨m', e, a1, a2, a3, a4, a5, a6⟩ := ih.2 ((m.sgn true).to 1) rfl hn
    refine ⟨m', ?_, a1, ?_, a5, a6⟩
    · rw [runM_cons ?_, e]
      rw [step_clause s h0]; unfold clauseM; rw [if_pos hs]
    · rw [a2, a4]
      show max m.at_.most (m.at_.nots + n) = _
      rw [hz, Nat.zero_add]
  | one _ ih => exact ih
  | @more A B n k v u hA hB ih1 ih2 =>
    obtain ⟨⟨t, r, rfl, ht⟩, ih1⟩ := ih1
    refine ⟨⟨t, r ++ B, rfl, ht⟩, fun m h0 hn hz => ?_⟩
    obtain ⟨m1, e1, a1, a2, a3, a4⟩ := ih1 m h0 hn hz
    obtain ⟨⟨t2, r2, rfl, ht2⟩, ih2⟩ := ih2
    obtain ⟨m2, e2, b1, b2, b3, b4⟩ := ih2 (m1.close.to 0) rfl rfl rfl
    refine ⟨m2, ?_, b1.trans a1, ?_, b3, b4⟩
    · rw [runM_append, e1]
      show runM m1 (t2 :: r2) = _
      rw [← e2, runM, runM, after_clause a3 a4 ht2, step_clause t2 rfl]
    · rw [b2]
      show max (max m1.at_.most (m1.at_.nots + m1.nest)) k = _
      rw [a2, Nat.max_assoc]
theorem D.run {A : List Lt} {e : Lt} {n : Nat} {v : Vl} (h : D .list A n v) (he : e.kind = 0) : ∃ m, runM mc0 (A ++ [e]) = some m ∧ m.state = 14 ∧ m.at_.most = n := by
  obtain ⟨m, e1, a1, a2, a3, a4⟩ := h.okk.2 mc0 rfl rfl rfl
  refine ⟨m.close.to 14, ?_, rfl, ?_⟩
  · rw [runM_append, e1]
    exact runM_one (after_end a3 a4 he a1)
  · show max m.at_.most (m.at_.nots + m.nest) = n
    rw [a2]; exact Nat.max_eq_right (Nat.zero_le n)
end Go.Proofs.YtcomdkejpaoneaaDoor
end
section
namespace Go.Proofs.YtcomdkejpaoneaaDoor
open Go.RowKit
set_option maxRecDepth 100000
set_option maxHeartbeats 1000000
set_option linter.unusedSimpArgs false
set_option linter.unusedVariables false
def ltS : Shape Lt := { tS := 42, tE := 49, size := 5, bytes := 48, enc := fun x => [.int .i64 x.kind, .string (str x.text), .int .i64 x.n, .int .i64 x.at_, .int .i64 x.end_], zero := .agg #[.int .i64 0, .string ⟨#[]⟩, .int .i64 0, .int .i64 0, .int .i64 0] }
theorem ltOk : ltS.Ok where
  under := Tryd.underlying42
  info := by kernel_rfl
  zs := rfl
  pos := by decide
  len := fun _ => rfl
  one := fun x u hu => by
    simp only [ltS, List.mem_cons, List.not_mem_nil, or_false] at hu
    rcases hu with rfl | rfl | rfl | rfl | rfl <;> rfl
  small := by decide
def levS : Shape Lev := { tS := 65, tE := 64, size := 3, bytes := 24, enc := fun x => [.int .i64 x.most, .int .i64 x.nots, .bool x.signed], zero := .agg #[.int .i64 0, .int .i64 0, .bool false] }
theorem levOk : levS.Ok where
  under := Tryd.underlying65
  info := by kernel_rfl
  zs := rfl
  pos := by decide
  len := fun _ => rfl
  one := fun x u hu => by
    simp only [levS, List.mem_cons, List.not_mem_nil, or_false] at hu
    rcases hu with rfl | rfl | rfl <;> rfl
  small := by decide
def ltVal (t : Lt) : Value := .agg #[.int .i64 t.kind, .string (str t.text), .int .i64 t.n, .int .i64 t.at_, .int .i64 t.end_]
def Lx.lt (x : Lx) : Lt := ⟨x.kind, x.text, x.n, (x.at_ : Int), (x.end_ : Int)⟩
theorem lt_cells (l : List Lx) : ltS.cells (l.map Lx.lt) = lexS.cells l := by
  induction l with
  | nil => rfl
  | cons x l ih =>
    have e1 : ltS.cells ((x :: l).map Lx.lt) = ltS.enc x.lt ++ ltS.cells (l.map Lx.lt) := rfl
    have e2 : lexS.cells (x :: l) = lexS.enc x ++ lexS.cells l := rfl
    rw [e1, e2, ih]; rfl
theorem OwnL.lt {w : World} {B : Nat} {v : Value} {l : List Lx} (h : OwnL lexS w B v l) : OwnL ltS w B v (l.map Lx.lt) := by
  unfold OwnL at h ⊢
  rw [lt_cells, List.length_map]; exact h
structure McAt (w : World) (B mb : Nat) (v : Value) (m : Mc) : Prop where
  blk : Blk w mb 67 #[.int .i64 (m.state : Int), .int .i64 (m.nest : Int), .int .i64 (m.at_.most : Int), .int .i64 (m.at_.nots : Int), .bool m.at_.signed, v]
  own : OwnL levS w B v m.below
  hB : B ≤ w.heap.size
  hm : B ≤ mb
section
variable {w w' : World} {B mb : Nat} {v : Value} {m : Mc}
theorem McAt.below (h : McAt w B mb v m) (hb : Below w.heap.size w w') : McAt w' B mb v m := ⟨h.blk.belowW hb, h.own.below hb, Nat.le_trans h.hB hb.size, h.hm⟩
theorem McAt.drew (h : McAt w B mb v m) : McAt w.drew B mb v m := h.below (Below.refl _ _).drew
theorem McAt.alloc (h : McAt w B mb v m) (o : Obj) : McAt (w.alloc o) B mb v m := h.below ((Below.refl _ _).alloc (Nat.le_refl _) _)
theorem McAt.set_ (h : McAt w B mb v m) (i : Nat) (u : Value) (m' : Mc)
    (hc : #[.int .i64 (m.state : Int), .int .i64 (m.nest : Int), .int .i64 (m.at_.most : Int), .int .i64 (m.at_.nots : Int), .bool m.at_.signed, v].setIfInBounds i u = #[.int .i64 (m'.state : Int), .int .i64 (m'.nest : Int), .int .i64 (m'.at_.most : Int), .int .i64 (m'.at_.nots : Int), .bool m'.at_.signed, v]) (hl : m'.below = m.below) : McAt (w.setCell ⟨mb, i, none⟩ u) B mb v m' := by
  refine ⟨hc ▸ h.blk.set_ i u, ?_, by rw [set_size]; exact h.hB, h.hm⟩
  rw [hl]
  exact h.own.farNe (h.own.offBlk h.blk (by decide)) _
theorem McAt.setState (h : McAt w B mb v m) (s : Nat) : McAt (w.setCell ⟨mb, 0, none⟩ (.int .i64 (s : Int))) B mb v (m.to s) := h.set_ 0 _ (m.to s) (by rfl) rfl
theorem McAt.facts (h : McAt w B mb v m) : (w.cell? ⟨mb, 0, none⟩ = some (.int .i64 (m.state : Int)) ∧ w.cell? ⟨mb, 1, none⟩ = some (.int .i64 (m.nest : Int)) ∧ w.cell? ⟨mb, 2, none⟩ = some (.int .i64 (m.at_.most : Int)) ∧ w.cell? ⟨mb, 3, none⟩ = some (.int .i64 (m.at_.nots : Int)) ∧ w.cell? ⟨mb, 4, none⟩ = some (.bool m.at_.signed) ∧ w.cell? ⟨mb, 5, none⟩ = some v) ∧
    (w.frozen? ⟨mb, 0, none⟩ = false ∧ w.frozen? ⟨mb, 1, none⟩ = false ∧ w.frozen? ⟨mb, 2, none⟩ = false ∧ w.frozen? ⟨mb, 3, none⟩ = false ∧ w.frozen? ⟨mb, 4, none⟩ = false ∧ w.frozen? ⟨mb, 5, none⟩ = false) ∧ mb < w.heap.size :=
  ⟨⟨h.blk.cell 0, h.blk.cell 1, h.blk.cell 2, h.blk.cell 3, h.blk.cell 4, h.blk.cell 5⟩, ⟨h.blk.frozen 0, h.blk.frozen 1, h.blk.frozen 2, h.blk.frozen 3, h.blk.frozen 4, h.blk.frozen 5⟩, h.blk.lt⟩
end
def StRet (B mb : Nat) (w : World) (r : Option Mc) (e : Ending) (w' : World) : Prop :=
  Below B w w' ∧ match r with
    | some m' => e = .returned (.bool true) ∧ ∃ v', McAt w' B mb v' m'
    | none => e = .returned (.bool false)
theorem StRet.good {B mb : Nat} {w w' : World} {r : Option Mc} {e : Ending} {m' : Mc} {v' : Value} (hb : Below B w w') (hr : r = some m') (he : e = .returned (.bool true)) (h : McAt w' B mb v' m') : StRet B mb w r e w' := by
  subst hr; exact ⟨hb, he, v', h⟩
theorem StRet.bad {B mb : Nat} {w w' : World} {r : Option Mc} {e : Ending} (hb : Below B w w') (hr : r = none) (he : e = .returned (.bool false)) : StRet B mb w r e w' := by
  subst hr; exact ⟨hb, he⟩
structure McB (m : Mc) : Prop where
  nest : m.nest ≤ 1000000000
  most : m.at_.most ≤ 1000000000
  nots : m.at_.nots ≤ 1000000000
  below : m.below.length ≤ 1000000000
theorem str_star (l : List UInt8) : ((str l).toList == [42]) = decide (l = [42]) := by
  rw [ba_toList]
  show (l == [42]) = _
  by_cases h : l = [42]
  · subst h; rfl
  · rw [decide_eq_false h]; simpa using h
end Go.Proofs.YtcomdkejpaoneaaDoor
end
section
namespace Go.Proofs.YtcomdkejpaoneaaDoor
set_option maxRecDepth 100000
set_option linter.unusedSimpArgs false
set_option linter.unusedVariables false
def stopB (z : UInt8) : Prop := (cls z = 1 ∨ cls z = 2) ∧ isDg z = false
theorem runY_stop {z : UInt8} (hz : stopB z) (b : List UInt8) : runL (z :: b) = some ⟨[], [], 0, 0⟩ := by
  cases b <;> (unfold runL; rw [if_pos hz.1])
theorem runY_stopApp {z : UInt8} (hz : stopB z) : ∀ (a b : List UInt8) (r : Rn), runL a = some r → runL (a ++ z :: b) = some r
  | [], b, r, h => by
    unfold runL at h; cases h
    exact runY_stop hz b
  | [c], b, r, h => by
    unfold runL at h
    rw [List.singleton_append, runL]
    split at h
    · rename_i hc; cases h; rw [if_pos hc]
    · rename_i hc
      rw [if_neg hc]
      split at h
      · rename_i h3; cases h; rw [if_pos h3, runY_stop hz]; rfl
      · rename_i h3
        rw [if_neg h3]
        split at h
        · cases h
        · rename_i h4; cases h; rw [if_neg h4, runY_stop hz]; rfl
  | c :: d :: t, b, r, h => by
    rw [runL] at h
    rw [List.cons_append, List.cons_append, runL]
    split at h
    · rename_i hc; cases h; rw [if_pos hc]
    · rename_i hc
      rw [if_neg hc]
      split at h
      · rename_i h3
        obtain ⟨y, hy, rfl⟩ := Option.map_eq_some_iff.1 h
        have := runY_stopApp hz (d :: t) b y hy
        rw [List.cons_append] at this
        rw [if_pos h3, this]; rfl
      · rename_i h3
        rw [if_neg h3]
        split at h
        · rename_i h4
          obtain ⟨y, hy, rfl⟩ := Option.map_eq_some_iff.1 h
          rw [if_pos h4, runY_stopApp hz t b y hy]; rfl
        · rename_i h4
          obtain ⟨y, hy, rfl⟩ := Option.map_eq_some_iff.1 h
          have := runY_stopApp hz (d :: t) b y hy
          rw [List.cons_append] at this
          rw [if_neg h4, this]; rfl
theorem digs_stopApp {z : UInt8} (hz : stopB z) (a b : List UInt8) : digs (a ++ z :: b) = digs a := by
  unfold digs
  induction a with
  | nil => rw [List.nil_append, List.takeWhile_cons, hz.2]; rfl
  | cons c a ih => rw [List.cons_append, List.takeWhile_cons, List.takeWhile_cons, ih]
theorem numTk_stopApp {z : UInt8} (hz : stopB z) (kind : Int) (a b : List UInt8) (m : Nat) : numTk kind (a ++ z :: b) m = numTk kind a m := by
  unfold numTk numOkB
  rw [digs_stopApp hz]
theorem tok_stopApp {z : UInt8} (hz : stopB z) {c : UInt8} {a b : List UInt8} {k : Tk} (h : tokOf (c :: a) = some k) : tokOf (c :: (a ++ z :: b)) = some k := by
  simp only [tokOf] at h ⊢
  split at h
  · rename_i hs; rw [if_pos hs]; exact h
  · rename_i hs
    rw [if_neg hs]
    split at h
    · rename_i hc
      obtain ⟨y, hy, rfl⟩ := Option.map_eq_some_iff.1 h
      rw [if_pos hc, quotedL_app a _ y hy]; rfl
    · rename_i hc
      rw [if_neg hc]
      split at h
      · rename_i h94
        rw [if_pos h94]
        cases a with
        | nil =>
          have : numTk 18 [] 1 = none := by decide
          rw [if_neg (by simp)] at h
          rw [this] at h; cases h
        | cons d a =>
          simp only [List.cons_append, List.head?_cons, List.drop_succ_cons, List.drop_zero] at h ⊢
          rw [numTk_stopApp hz, ← List.cons_append, numTk_stopApp hz]
          exact h
      · rename_i h94
        rw [if_neg h94]
        split at h
        · rename_i h126
          rw [if_pos h126, digs_stopApp hz, numTk_stopApp hz]
          exact h
        · rename_i h126
          rw [if_neg h126]
          split at h
          · rename_i h64
            rw [if_pos h64, numTk_stopApp hz]; exact h
          · rename_i h64
            rw [if_neg h64]
            unfold runTk at h ⊢
            obtain ⟨r, hr, rfl⟩ := Option.map_eq_some_iff.1 h
            have hlen := runL_len _ _ hr
            have := runY_stopApp hz (c :: a) b r hr
            rw [List.cons_append] at this
            rw [this]
            simp only [Option.map_some]
            rw [← List.cons_append, List.take_append_of_le_length hlen]
theorem scan_stopApp {z : UInt8} (hz : stopB z) : ∀ (f : Nat) (p q : List UInt8) (i f' : Nat) (la : List Lx), p.length < f → scanF f p i = (la, none) → p.length + q.length + 1 < f' →
    scanF f' (p ++ z :: q) i = ahead la.dropLast (scanF (q.length + 2) (z :: q) (i + p.length))
  | 0, p, q, i, f', la, h, _, _ => by omega
  | _, p, q, i, 0, la, _, _, h => by omega
  | f + 1, [], q, i, f' + 1, la, h, h2, h3 => by
    cases h2
    rw [List.nil_append, List.dropLast_singleton, ahead_nil _ (scanF_or _ _ _)]
    exact scanF_fuel _ _ _ _ (by simp only [List.length_nil, List.length_cons] at h3 ⊢; omega) (by simp only [List.length_cons]; omega)
  | f + 1, c :: t, q, i, f' + 1, la, h, h2, h3 => by
    simp only [List.length_cons] at h h3
    rw [scanF] at h2
    rw [List.cons_append, scanF]
    split at h2
    · rename_i hc
      rw [if_pos hc, scan_stopApp hz f t q (i + 1) f' la (by omega) h2 (by omega), List.length_cons, show i + 1 + t.length = i + (t.length + 1) from by omega]
    · rename_i hc
      rw [if_neg hc]
      split at h2
      · cases h2
      · rename_i k ht
        have hk := tok_len ht (fun d hd => by cases hd; exact hc)
        simp only [List.length_cons] at hk
        rw [tok_stopApp hz ht]
        rcases hr : scanF f ((c :: t).drop k.len) (i + k.len) with ⟨u, _ | z⟩
        · rw [hr] at h2
          cases h2
          have hd : ((c :: t).drop k.len).length = t.length + 1 - k.len := by rw [List.length_drop, List.length_cons]
          have := scan_stopApp hz f _ q (i + k.len) f' u (by omega) hr (by omega)
          simp only []
          rw [← List.cons_append, List.drop_append_of_le_length (by rw [List.length_cons]; omega), this, ahead_ahead]
          simp only [List.singleton_append]
          rw [List.dropLast_cons_of_ne_nil (scanF_ne _ _ _ _ hr), hd, List.length_cons,
            show i + k.len + (t.length + 1 - k.len) = i + (t.length + 1) from by omega]
        · rw [hr] at h2; cases h2
theorem scanL_stopApp {z : UInt8} (hz : stopB z) {p q : List UInt8} {la : List Lx} (h : scanL p = (la, none)) : scanL (p ++ z :: q) = ahead la.dropLast (upAll p.length (scanL (z :: q))) := by
  unfold scanL at h ⊢
  rw [scan_stopApp hz _ p q 0 _ la (by omega) h (by rw [List.length_append, List.length_cons]; omega), ← scanF_up, List.length_cons]
theorem scanL_single {c : UInt8} (h : singleK c ≠ 0) (t : List UInt8) : scanL (c :: t) = ahead [⟨singleK c, [], 0, 0, 1⟩] (upAll 1 (scanL t)) := by
  have hc : cls c ≠ 1 := by
    have := all_bytes' (p := fun c => decide (singleK c ≠ 0 → cls c ≠ 1)) (by decide +kernel) c
    exact of_decide_eq_true this h
  unfold scanL
  rw [List.length_cons, scanF, if_neg hc, ← scanF_up, tokOf, if_pos h]
  rfl
def lk (x : Lt) : Int × List UInt8 × Int := (x.kind, x.text, x.n)
def lkX (x : Lx) : Int × List UInt8 × Int := (x.kind, x.text, x.n)
theorem lkX_up (d : Nat) (l : List Lx) : (l.map (Lx.up d)).map lkX = l.map lkX := by rw [List.map_map]; rfl
theorem lk_lt (l : List Lx) : (l.map Lx.lt).map lk = l.map lkX := by rw [List.map_map]; rfl
def Toks (l : List UInt8) (T : List Lt) : Prop := ∃ (la : List Lx) (e : Lx), scanL l = (la ++ [e], none) ∧ e.kind = 0 ∧ la.map lkX = T.map lk
theorem Toks.nil : Toks [] [] := ⟨[], _, scanL_nil', rfl, rfl⟩
  where scanL_nil' : scanL [] = ([] ++ [⟨0, [], 0, 0, 0⟩], none) := rfl
theorem Toks.app {z : UInt8} (hz : stopB z) {p q : List UInt8} {A B : List Lt} (h : Toks p A) (h2 : Toks (z :: q) B) : Toks (p ++ z :: q) (A ++ B) := by
  obtain ⟨la, e, hs, he, hl⟩ := h
  obtain ⟨lb, e2, hs2, he2, hl2⟩ := h2
  refine ⟨la ++ lb.map (Lx.up p.length), e2.up p.length, ?_, he2, ?_⟩
  · rw [scanL_stopApp hz hs, hs2, List.dropLast_concat]
    simp [upAll, ahead]
  · rw [List.map_append, List.map_append, hl, lkX_up, hl2]
theorem Toks.blank {z : UInt8} (hz : cls z = 1) {q : List UInt8} {B : List Lt} (h : Toks q B) : Toks (z :: q) B := by
  obtain ⟨la, e, hs, he, hl⟩ := h
  refine ⟨la.map (Lx.up 1), e.up 1, ?_, he, by rw [lkX_up, hl]⟩
  have : scanL (z :: q) = upAll 1 (scanL q) := by
    unfold scanL
    rw [List.length_cons, scanF, if_pos hz, ← scanF_up]
  rw [this, hs]; simp [upAll]
theorem Toks.single {c : UInt8} {k : Int} (hk : singleK c = k) (h0 : k ≠ 0) {q : List UInt8} {B : List Lt} (h : Toks q B) : Toks (c :: q) (⟨k, [], 0, 0, 0⟩ :: B) := by
  obtain ⟨la, e, hs, he, hl⟩ := h
  refine ⟨⟨k, [], 0, 0, 1⟩ :: la.map (Lx.up 1), e.up 1, ?_, he, ?_⟩
  · rw [scanL_single (by rw [hk]; exact h0), hs, hk]; simp [upAll, ahead]
  · rw [List.map_cons, List.map_cons, lkX_up, hl]; rfl
theorem Toks.one {l : List UInt8} {x e : Lx} (h : scanL l = ([x, e], none)) (he : e.kind = 0) : Toks l [⟨x.kind, x.text, x.n, 0, 0⟩] := ⟨[x], e, h, he, rfl⟩
theorem Toks.lk {l : List UInt8} {A B : List Lt} (h : Toks l A) (hb : B.map lk = A.map lk) : Toks l B := by
  obtain ⟨la, e, hs, he, hl⟩ := h
  exact ⟨la, e, hs, he, by rw [hl, hb]⟩
theorem lk_split {A1 A2 B : List Lt} (h : B.map lk = (A1 ++ A2).map lk) : ∃ B1 B2, B = B1 ++ B2 ∧ B1.map lk = A1.map lk ∧ B2.map lk = A2.map lk := by
  rw [List.map_append, List.map_eq_append_iff] at h
  exact h
theorem lk_head {a : Lt} {A B : List Lt} (h : B.map lk = (a :: A).map lk) : ∃ b B', B = b :: B' ∧ b.kind = a.kind ∧ b.text = a.text ∧ b.n = a.n ∧ B'.map lk = A.map lk := by
  rw [List.map_cons, List.map_eq_cons_iff] at h
  obtain ⟨b, B', e, hb, hB⟩ := h
  unfold Go.Proofs.YtcomdkejpaoneaaDoor.lk at hb
  simp only [Prod.mk.injEq] at hb
  exact ⟨b, B', e, hb.1, hb.2.1, hb.2.2, hB⟩
theorem lk_none {B : List Lt} (h : B.map lk = ([] : List Lt).map lk) : B = [] := by simpa using h
theorem starT_lk {a b : Lt} (h : b.kind = a.kind) (h2 : b.text = a.text) : starT b = starT a := by unfold starT; rw [h, h2]
theorem sideT_lk {a b : Lt} (h : b.kind = a.kind) (h2 : b.text = a.text) : sideT b = sideT a := by unfold sideT; rw [starT_lk h h2, h]
theorem sideN_lk {a b : Lt} (h : b.kind = a.kind) (h2 : b.text = a.text) (i : Bool) : sideN b i = sideN a i := by unfold sideN; rw [h, h2]
theorem D.lk {p : Pt} {A : List Lt} {n : Nat} {v : Vl} (h : D p A n v) : ∀ B : List Lt, B.map lk = A.map lk → D p B n v := by
  induction h with
  | word ht =>
    intro B hB
    obtain ⟨b, B', rfl, h1, h2, h3, h4⟩ := lk_head hB
    obtain rfl := lk_none h4
    rw [← h2]; exact .word (h1.trans ht)
  | edits ht hu hn =>
    intro B hB
    obtain ⟨b, B', rfl, h1, h2, h3, h4⟩ := lk_head hB
    obtain ⟨c, B', rfl, g1, g2, g3, g4⟩ := lk_head h4
    obtain rfl := lk_none g4
    rw [← h2, ← g3]; exact .edits (h1.trans ht) (g1.trans hu) (by rw [g3]; exact hn)
  | pat ht =>
    intro B hB
    obtain ⟨b, B', rfl, h1, h2, h3, h4⟩ := lk_head hB
    obtain rfl := lk_none h4
    rw [← h2]; exact .pat (h1.trans ht)
  | quo ht =>
    intro B hB
    obtain ⟨b, B', rfl, h1, h2, h3, h4⟩ := lk_head hB
    obtain rfl := lk_none h4
    rw [← h2]; exact .quo (h1.trans ht)
  | slop ht hu hn =>
    intro B hB
    obtain ⟨b, B', rfl, h1, h2, h3, h4⟩ := lk_head hB
    obtain ⟨c, B', rfl, g1, g2, g3, g4⟩ := lk_head h4
    obtain rfl := lk_none g4
    rw [← h2, ← g3]; exact .slop (h1.trans ht) (g1.trans hu) (by rw [g3]; exact hn)
  | span ha hb hc hd he =>
    intro B hB
    obtain ⟨a1, B', rfl, p1, p2, p3, p4⟩ := lk_head hB
    obtain ⟨a2, B', rfl, q1, q2, q3, q4⟩ := lk_head p4
    obtain ⟨a3, B', rfl, r1, r2, r3, r4⟩ := lk_head q4
    obtain ⟨a4, B', rfl, s1, s2, s3, s4⟩ := lk_head r4
    obtain ⟨a5, B', rfl, t1, t2, t3, t4⟩ := lk_head s4
    obtain rfl := lk_none t4
    rw [← p1, ← t1, ← sideN_lk q1 q2, ← sideN_lk s1 s2]
    exact .span (by rw [p1]; exact ha) (by rw [sideT_lk q1 q2]; exact hb) (by rw [r1]; exact hc) (by rw [sideT_lk s1 s2]; exact hd) (by rw [t1]; exact he)
  | group ho _ hc ih =>
    intro B hB
    obtain ⟨o1, B', rfl, h1, h2, h3, h4⟩ := lk_head hB
    obtain ⟨B1, B2, rfl, g1, g2⟩ := lk_split h4
    obtain ⟨c1, B', rfl, k1, k2, k3, k4⟩ := lk_head g2
    obtain rfl := lk_none k4
    exact .group (h1.trans ho) (ih B1 g1) (k1.trans hc)
  | least ho _ hc hl ih =>
    intro B hB
    obtain ⟨o1, B', rfl, h1, h2, h3, h4⟩ := lk_head hB
    obtain ⟨B1, B2, rfl, g1, g2⟩ := lk_split h4
    obtain ⟨c1, B', rfl, k1, k2, k3, k4⟩ := lk_head g2
    obtain ⟨l1, B', rfl, m1, m2, m3, m4⟩ := lk_head k4
    obtain rfl := lk_none m4
    rw [← m3]
    exact .least (h1.trans ho) (ih B1 g1) (k1.trans hc) (m1.trans hl)
  | leafB _ ih => exact fun B hB => .leafB (ih B hB)
  | groupB _ ih => exact fun B hB => .groupB (ih B hB)
  | bodyA _ ih => exact fun B hB => .bodyA (ih B hB)
  | field hw hc _ ih =>
    intro B hB
    obtain ⟨w1, B', rfl, h1, h2, h3, h4⟩ := lk_head hB
    obtain ⟨c1, B', rfl, g1, g2, g3, g4⟩ := lk_head h4
    rw [← h2]
    exact .field (h1.trans hw) (g1.trans hc) (ih _ g4)
  | all hs hc ht =>
    intro B hB
    obtain ⟨w1, B', rfl, h1, h2, h3, h4⟩ := lk_head hB
    obtain ⟨c1, B', rfl, g1, g2, g3, g4⟩ := lk_head h4
    obtain ⟨t1, B', rfl, k1, k2, k3, k4⟩ := lk_head g4
    obtain rfl := lk_none k4
    exact .all (by rw [starT_lk h1 h2]; exact hs) (g1.trans hc) (by rw [starT_lk k1 k2]; exact ht)
  | atomP _ ih => exact fun B hB => .atomP (ih B hB)
  | sfx _ hb ih =>
    intro B hB
    obtain ⟨B1, B2, rfl, g1, g2⟩ := lk_split hB
    obtain ⟨c1, B', rfl, k1, k2, k3, k4⟩ := lk_head g2
    obtain rfl := lk_none k4
    rw [← k1, ← k3]
    exact .sfx (ih B1 g1) (by rw [k1]; exact hb)
  | pieceU _ ih => exact fun B hB => .pieceU (ih B hB)
  | not ht _ ih =>
    intro B hB
    obtain ⟨w1, B', rfl, h1, h2, h3, h4⟩ := lk_head hB
    exact .not (h1.trans ht) (ih _ h4)
  | maxU _ ih => exact fun B hB => .maxU (ih B hB)
  | bar _ hb _ ih1 ih2 =>
    intro B hB
    obtain ⟨B1, B2, rfl, g1, g2⟩ := lk_split hB
    obtain ⟨c1, B', rfl, k1, k2, k3, k4⟩ := lk_head g2
    exact .bar (ih1 B1 g1) (k1.trans hb) (ih2 _ k4)
  | andM _ ih => exact fun B hB => .andM (ih B hB)
  | and _ hb _ ih1 ih2 =>
    intro B hB
    obtain ⟨B1, B2, rfl, g1, g2⟩ := lk_split hB
    obtain ⟨c1, B', rfl, k1, k2, k3, k4⟩ := lk_head g2
    exact .and (ih1 B1 g1) (k1.trans hb) (ih2 _ k4)
  | orA _ ih => exact fun B hB => .orA (ih B hB)
  | or _ hb _ ih1 ih2 =>
    intro B hB
    obtain ⟨B1, B2, rfl, g1, g2⟩ := lk_split hB
    obtain ⟨c1, B', rfl, k1, k2, k3, k4⟩ := lk_head g2
    exact .or (ih1 B1 g1) (k1.trans hb) (ih2 _ k4)
  | clauseO _ ih => exact fun B hB => .clauseO (ih B hB)
  | sign hs _ ih =>
    intro B hB
    obtain ⟨w1, B', rfl, h1, h2, h3, h4⟩ := lk_head hB
    rw [← h1]
    exact .sign (by rw [h1]; exact hs) (ih _ h4)
  | one _ ih => exact fun B hB => .one (ih B hB)
  | more _ _ ih1 ih2 =>
    intro B hB
    obtain ⟨B1, B2, rfl, g1, g2⟩ := lk_split hB
    exact .more (ih1 B1 g1) (ih2 B2 g2)
theorem D.list2 {A B : List Lt} {n m : Nat} {v u : Vl} (h : D .list A n v) (h2 : D .list B m u) : D .list (A ++ B) (max n m) fun f => v f ++ u f := by
  generalize hp : Pt.list = p at h2
  induction h2 with
  | one h2 => exact .more h h2
  | more _ h2 ih _ =>
    rw [← List.append_assoc, ← Nat.max_assoc]
    have := D.more (ih hp) h2
    simpa only [List.append_assoc] using this
  | _ => cases hp
end Go.Proofs.YtcomdkejpaoneaaDoor
end
section
namespace Go.Proofs.YtcomdkejpaoneaaDoor
set_option linter.unusedSimpArgs false
set_option linter.unusedVariables false
structure Rw where
  at_ : Nat
  signed : Bool
  open_ : List Bool
def Rw.to (r : Rw) (s : Nat) : Rw := ⟨s, r.signed, r.open_⟩
def Mc.row (m : Mc) : Rw := ⟨m.state, m.at_.signed, m.below.map (·.signed)⟩
end Go.Proofs.YtcomdkejpaoneaaDoor
end
section
namespace Go.Proofs.YtcomdkejpaoneaaDoor
set_option linter.unusedSimpArgs false
set_option linter.unusedVariables false
theorem D.nest_le {p : Pt} {A : List Lt} {n : Nat} {v : Vl} (h : D p A n v) : n ≤ A.length := by
  induction h <;> (try simp only [List.length_cons, List.length_append, List.length_nil] at *) <;> omega
theorem OptD.le {p : Pt} {ts : List Lt} {n : Nat} (h : OptD p ts n) : n ≤ ts.length := by
  rcases h with ⟨rfl, rfl⟩ | ⟨v, h⟩
  · exact Nat.zero_le _
  · exact h.nest_le
theorem OptM.le {p : Pt} {k : Int} {ts : List Lt} {n : Nat} (h : OptM p k ts n) : n ≤ ts.length := by
  rcases h with ⟨rfl, rfl⟩ | ⟨A, b, v, rfl, _, h⟩
  · exact Nat.zero_le _
  · have := h.nest_le
    rw [List.length_append]; omega
theorem LC.le {S : List Lt} {sg : Bool} {n : Nat} (h : LC S sg n) : n ≤ S.length := by
  cases h with
  | signed hL hs => have := hL.le; rw [List.length_append]; omega
  | plain hL hO hA hM =>
    have h1 := hL.le; have h2 := hO.le; have h3 := hA.le; have h4 := hM.le
    simp only [List.length_append]; omega
theorem UC.le {lv : Lev} {U : List Lt} (h : UC lv U) : lv.most + lv.nots ≤ U.length := by
  obtain ⟨S, N, hS, hN, hl, rfl⟩ := h
  have := hS.le
  rw [List.length_append]; omega
theorem BC.le {lv : Lev} {U : List Lt} (h : BC lv U) : lv.most + lv.nots ≤ U.length := by
  obtain ⟨U, w, c, hU, _, _, rfl⟩ := h
  have := hU.le
  rw [List.length_append]; omega
theorem FC.le {lv : Lev} {U : List Lt} (h : FC lv U) : lv.most + lv.nots ≤ U.length := by
  rcases h with h | h
  · exact h.le
  · exact h.le
theorem Piece.le {lv : Lev} {n : Nat} {ts : List Lt} (h : Piece lv n ts) : lv.most + lv.nots + n ≤ ts.length := by
  obtain ⟨U, P, v, hU, hP, rfl⟩ := h
  have h1 := hU.le; have h2 := hP.nest_le
  rw [List.length_append]; omega
theorem Cur.le {st : Nat} {lv : Lev} {nest : Nat} {ts : List Lt} (h : Cur st lv nest ts) (h1 : st < 14) : lv.most + lv.nots + nest ≤ ts.length := by
  have h3 : st = 0 ∨ st = 1 ∨ st = 2 ∨ st = 3 ∨ st = 4 ∨ st = 5 ∨ st = 6 ∨ st = 7 ∨ st = 8 ∨ st = 9 ∨ st = 10 ∨ st = 11 ∨ st = 12 ∨ st = 13 := by omega
  unfold Cur at h
  rcases h3 with rfl | rfl | rfl | rfl | rfl | rfl | rfl | rfl | rfl | rfl | rfl | rfl | rfl | rfl <;> simp only [Nat.reduceEqDiff, if_false, if_true, reduceIte] at h
  · obtain ⟨h0, rfl, h⟩ := h
    have := h.le; omega
  · obtain ⟨rfl, h⟩ := h
    have := h.le; omega
  · obtain ⟨rfl, h⟩ := h
    have := h.le; omega
  · obtain ⟨rfl, U, s, c, hU, _, _, rfl⟩ := h
    have := hU.le; rw [List.length_append]; omega
  · obtain ⟨rfl, U, w, hU, _, rfl⟩ := h
    have := hU.le; rw [List.length_append]; omega
  · obtain ⟨rfl, U, w, hU, _, rfl⟩ := h
    have := hU.le; rw [List.length_append]; omega
  · obtain ⟨rfl, U, w, hU, _, rfl⟩ := h
    have := hU.le; rw [List.length_append]; omega
  · obtain ⟨rfl, U, w, hU, _, rfl⟩ := h
    have := hU.le; rw [List.length_append]; omega
  · obtain ⟨F, o, A, c, n, v, hF, _, hA, _, rfl, rfl⟩ := h
    have h1 := hF.le; have h2 := hA.nest_le
    simp only [List.length_append, List.length_cons, List.length_nil]; omega
  · exact h.le
  · obtain ⟨rfl, F, a, hF, _, rfl⟩ := h
    have := hF.le; rw [List.length_append]; omega
  · obtain ⟨rfl, F, a, b, hF, _, _, rfl⟩ := h
    have := hF.le; rw [List.length_append]; omega
  · obtain ⟨rfl, F, a, b, c, hF, _, _, _, rfl⟩ := h
    have := hF.le; rw [List.length_append]; omega
  · obtain ⟨rfl, F, a, b, c, d, hF, _, _, _, _, rfl⟩ := h
    have := hF.le; rw [List.length_append]; omega
theorem Stk.le {bl : List Lev} {P : List Lt} (h : Stk bl P) : bl.length ≤ P.length := by
  induction h with
  | nil => exact Nat.le_refl _
  | push h hF ho ih => simp only [List.length_append, List.length_cons, List.length_nil]; omega
theorem Inv.le {m : Mc} {pre : List Lt} (h : Inv m pre) (h1 : m.state < 14) : m.at_.most + m.at_.nots + m.nest + m.below.length ≤ pre.length := by
  obtain ⟨P, C, rfl, hs, hc, _, _⟩ := h
  have h2 := hs.le; have h3 := hc.le h1
  rw [List.length_append]; omega
theorem Inv.st {m : Mc} {pre : List Lt} (h : Inv m pre) : m.state ≤ 14 := by
  obtain ⟨P, C, _, _, _, h, _⟩ := h
  exact h
theorem runI_at (l : List Lt) (m : Mc) (i k : Nat) (hk : k < l.length) : runI m i (l.drop k) = (match stepM m l[k] with | none => .inr i | some m' => runI m' (i + 1) (l.drop (k + 1))) := by
  rw [List.drop_eq_getElem_cons hk]; rfl
end Go.Proofs.YtcomdkejpaoneaaDoor
end
