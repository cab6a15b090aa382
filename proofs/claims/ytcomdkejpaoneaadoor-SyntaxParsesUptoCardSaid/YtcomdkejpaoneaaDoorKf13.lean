/- Merged for a claim by shake.py: Gc Ma Mb -/
import Derived.Test.YtcomdkejpaoneaaDoorKfA
import Derived.Test.YtcomdkejpaoneaaDoorKf1
import Derived.Test.YtcomdkejpaoneaaDoorKf12
import Derived.Test.YtcomdkejpaoneaaDoorKf2
import Derived.Test.YtcomdkejpaoneaaDoorKf6
section
namespace Go.Proofs.YtcomdkejpaoneaaDoor
set_option linter.unusedSimpArgs false
set_option linter.unusedVariables false
def Aft (m m' : Mc) (n : Nat) : Prop := m'.below = m.below ∧ m'.at_.most = m.at_.most ∧ m'.at_.signed = m.at_.signed ∧ m'.at_.nots + m'.nest = m.at_.nots + n ∧ 4 ≤ m'.state ∧ m'.state ≤ 9
def begT (t : Lt) : Prop := t.kind = 1 ∨ t.kind = 2 ∨ t.kind = 3 ∨ t.kind = 6 ∨ t.kind = 8 ∨ t.kind = 10 ∨ t.kind = 12 ∨ t.kind = 15 ∨ t.kind = 16
def Okk : Pt → List Lt → Nat → Prop
 | .leaf, A, n => (∀ m, m.state = 1 ∨ m.state = 2 → m.nest = 0 → ∃ m', runM m A = some m' ∧ Aft m m' n)
 | .group, A, n => (∀ m, m.state = 1 ∨ m.state = 2 → m.nest = 0 → ∃ m', runM m A = some m' ∧ Aft m m' n)
 | .body, A, n => (∀ m, m.state = 1 ∨ m.state = 2 → m.nest = 0 → ∃ m', runM m A = some m' ∧ Aft m m' n)
 | .clause, A, n => (∃ t r, A = t :: r ∧ begT t) ∧ (∀ m, m.state = 0 → m.nest = 0 → m.at_.nots = 0 → ∃ m', runM m A = some m' ∧ m'.below = m.below ∧ max m'.at_.most (m'.at_.nots + m'.nest) = max m.at_.most n ∧ 4 ≤ m'.state ∧ m'.state ≤ 9)
 | .list, A, n => (∃ t r, A = t :: r ∧ begT t) ∧ (∀ m, m.state = 0 → m.nest = 0 → m.at_.nots = 0 → ∃ m', runM m A = some m' ∧ m'.below = m.below ∧ max m'.at_.most (m'.at_.nots + m'.nest) = max m.at_.most n ∧ 4 ≤ m'.state ∧ m'.state ≤ 9)
 | .atom, A, n => (∃ t r, A = t :: r ∧ begT t ∧ t.kind ≠ 15 ∧ t.kind ≠ 16) ∧ (∀ m, m.state = 1 → m.nest = 0 → ∃ m', runM m A = some m' ∧ Aft m m' n)
 | .piece, A, n => (∃ t r, A = t :: r ∧ begT t ∧ t.kind ≠ 15 ∧ t.kind ≠ 16) ∧ (∀ m, m.state = 1 → m.nest = 0 → ∃ m', runM m A = some m' ∧ Aft m m' n)
 | .unary, A, n => (∃ t r, A = t :: r ∧ begT t ∧ t.kind ≠ 15 ∧ t.kind ≠ 16) ∧ (∀ m, m.state = 1 → m.nest = 0 → ∃ m', runM m A = some m' ∧ Aft m m' n)
 | _, A, n => (∃ t r, A = t :: r ∧ begT t ∧ t.kind ≠ 15 ∧ t.kind ≠ 16) ∧ (∀ m, m.state = 1 → m.nest = 0 → m.at_.nots = 0 → m.at_.signed = false → ∃ m', runM m A = some m' ∧ m'.below = m.below ∧ m'.at_.signed = false ∧ max m'.at_.most (m'.at_.nots + m'.nest) = max m.at_.most n ∧ 4 ≤ m'.state ∧ m'.state ≤ 9)
theorem step_body {m : Mc} (t : Lt) (h : m.state = 2) : stepM m t = bodyM m t := by unfold stepM; simp [h]
theorem step_unary {m : Mc} (t : Lt) (h : m.state = 1) : stepM m t = unaryM m t := by unfold stepM; simp [h]
theorem step_clause {m : Mc} (t : Lt) (h : m.state = 0) : stepM m t = clauseM m t := by unfold stepM; simp [h]
theorem step_after {m : Mc} (t : Lt) (h : 4 ≤ m.state) (h2 : m.state ≤ 9) : stepM m t = afterM m t := by
 unfold stepM
 rw [if_neg (by omega), if_neg (by omega), if_neg (by omega), if_neg (by omega), if_neg (by omega), if_neg (by omega), if_neg (by omega), if_neg (by omega), if_neg (by omega)]
theorem step_word {m : Mc} {t : Lt} (h : m.state = 1 ∨ m.state = 2) (ht : t.kind = 1) : ∃ s, (s = 4 ∨ s = 5) ∧ stepM m t = some (m.to s) := by
 rcases h with h | h
 ·exact ⟨4, .inl rfl, by rw [step_unary t h]; unfold unaryM; simp [ht]⟩
 ·exact ⟨5, .inr rfl, by rw [step_body t h]; unfold bodyM; simp [ht]⟩
theorem starT_no {t : Lt} (h : t.kind ≠ 2) : starT t = false := by simp [starT, h]
theorem unary_body {m : Mc} {t : Lt} (h6 : t.kind ≠ 6) (h1 : t.kind ≠ 1) (h2 : starT t = false) : unaryM m t = bodyM m t := by
 unfold unaryM; simp [h6, h1, h2]
theorem step_open {m : Mc} {t : Lt} (h : m.state = 1 ∨ m.state = 2) (ht : t.kind = 8) : stepM m t = some ⟨0, m.nest, lev0, m.below ++ [m.at_]⟩ := by
 have hb : bodyM m t = some ⟨0, m.nest, lev0, m.below ++ [m.at_]⟩ := by unfold bodyM; simp [ht]
 rcases h with h | h
 ·rw [step_unary t h, unary_body (by omega) (by omega) (starT_no (by omega)), hb]
 ·rw [step_body t h, hb]
theorem step_quo {m : Mc} {t : Lt} (h : m.state = 1 ∨ m.state = 2) (ht : t.kind = 3) : stepM m t = some (m.to 7) := by
 have hb : bodyM m t = some (m.to 7) := by unfold bodyM; simp [ht]
 rcases h with h | h
 ·rw [step_unary t h, unary_body (by omega) (by omega) (starT_no (by omega)), hb]
 ·rw [step_body t h, hb]
theorem step_square {m : Mc} {t : Lt} (h : m.state = 1 ∨ m.state = 2) (ht : t.kind = 10 ∨ t.kind = 12) : stepM m t = some (m.to 10) := by
 have hb : bodyM m t = some (m.to 10) := by unfold bodyM; rcases ht with ht | ht <;> simp [ht]
 rcases h with h | h
 ·rw [step_unary t h, unary_body (by omega) (by omega) (starT_no (by omega)), hb]
 ·rw [step_body t h, hb]
theorem step_pat {m : Mc} {t : Lt} (h : m.state = 1 ∨ m.state = 2) (ht : t.kind = 2) : ∃ s, (s = 6 ∨ s = 9) ∧ stepM m t = some (m.to s) := by
 have hb : bodyM m t = some (m.to 9) := by unfold bodyM; simp [ht]
 rcases h with h | h
 ·by_cases hs : starT t = true
  ·exact ⟨6, .inl rfl, by rw [step_unary t h]; unfold unaryM; simp [ht, hs]⟩
  ·exact ⟨9, .inr rfl, by rw [step_unary t h, unary_body (by omega) (by omega) (by simpa using hs), hb]⟩
 ·exact ⟨9, .inr rfl, by rw [step_body t h, hb]⟩
theorem aft_to {m : Mc} {s : Nat} (hn : m.nest = 0) (h4 : 4 ≤ s) (h9 : s ≤ 9) : Aft m (m.to s) 0 := ⟨rfl, rfl, rfl, by show m.at_.nots + m.nest = _; rw [hn], h4, h9⟩
theorem runM_one {m m' : Mc} {t : Lt} (h : stepM m t = some m') : runM m [t] = some m' := by rw [runM, h]; rfl
theorem runM_cons {m m' : Mc} {t : Lt} {r : List Lt} (h : stepM m t = some m') : runM m (t :: r) = runM m' r := by rw [runM, h]; rfl
theorem tilde_word {m : Mc} {u : Lt} {s : Nat} (hs : s = 4 ∨ s = 5) (hu : u.kind = 20) (hn : u.n = -1 ∨ u.n = 1 ∨ u.n = 2) : stepM (m.to s) u = some (m.to 9) := by
 have h1 : (m.to s).state = 4 ∨ (m.to s).state = 5 := hs
 rw [step_after u (by omega) (by omega)]
 unfold afterM
 rw [if_neg (by omega), if_neg (by omega), if_pos hu, if_pos (.inl ⟨h1, hn⟩)]; rfl
theorem tilde_quo {m : Mc} {u : Lt} (hu : u.kind = 20) (hn : 0 ≤ u.n) : stepM (m.to 7) u = some (m.to 9) := by
 have h1 : (m.to 7).state = 7 := rfl
 rw [step_after u (by omega) (by omega)]
 unfold afterM
 rw [if_neg (by omega), if_neg (by omega), if_pos hu, if_pos (.inr ⟨h1, hn⟩)]; rfl
theorem after_clause {m : Mc} {t : Lt} (h4 : 4 ≤ m.state) (h9 : m.state ≤ 9) (ht : begT t) : stepM m t = clauseM (m.close.to 0) t := by
 rw [step_after t h4 h9]
 unfold afterM
 unfold begT at ht
 rw [if_neg (by omega), if_neg (by omega), if_neg (by omega), if_neg (by omega), if_neg (by omega), if_neg (by omega), if_neg (by omega), if_neg (by omega)]
theorem after_mark {m : Mc} {t : Lt} (h4 : 4 ≤ m.state) (h9 : m.state ≤ 9) (ht : t.kind = 4 ∨ t.kind = 5 ∨ t.kind = 17) (hs : m.at_.signed = false) : stepM m t = some (m.close.to 1) := by
 rw [step_after t h4 h9]
 unfold afterM
 rw [if_neg (by omega), if_neg (by omega), if_neg (by omega), if_neg (by omega), if_neg (by omega), if_pos ht, if_neg (by simp [hs])]
theorem after_sfx {m : Mc} {t : Lt} (h4 : 4 ≤ m.state) (h9 : m.state ≤ 9) (ht : t.kind = 18 ∨ t.kind = 19) : stepM m t = some ⟨9, m.nest + 1, m.at_, m.below⟩ := by
 rw [step_after t h4 h9]
 unfold afterM
 rw [if_neg (by omega), if_neg (by omega), if_neg (by omega), if_neg (by omega), if_pos ht]
theorem after_shut {m : Mc} {t : Lt} {bl : List Lev} {lv : Lev} (h4 : 4 ≤ m.state) (h9 : m.state ≤ 9) (ht : t.kind = 9) (hb : m.below = bl ++ [lv]) : stepM m t = some ⟨8, max m.at_.most (m.at_.nots + m.nest) + 1, lv, bl⟩ := by
 rw [step_after t h4 h9]
 unfold afterM
 rw [if_neg (by omega), if_neg (by omega), if_neg (by omega), if_neg (by omega), if_neg (by omega), if_neg (by omega), if_neg (by omega), if_pos ht]
 unfold shutM
 rw [hb, List.getLast?_concat, List.dropLast_concat]
theorem after_end {m : Mc} {t : Lt} (h4 : 4 ≤ m.state) (h9 : m.state ≤ 9) (ht : t.kind = 0) (hb : m.below = []) : stepM m t = some (m.close.to 14) := by
 rw [step_after t h4 h9]
 unfold afterM
 rw [if_neg (by omega), if_neg (by omega), if_neg (by omega), if_neg (by omega), if_neg (by omega), if_neg (by omega), if_pos ht, if_pos hb]
theorem run_inner {m : Mc} {o c : Lt} {A : List Lt} {n : Nat} (hm : m.state = 1 ∨ m.state = 2) (hn : m.nest = 0) (ho : o.kind = 8) (hc : c.kind = 9) (hA : Okk .list A n) : runM m (o :: (A ++ [c])) = some ⟨8, n + 1, m.at_, m.below⟩ := by
 rw [runM_cons (step_open hm ho), runM_append]
 obtain ⟨m1, h1, h2, h3, h4, h5⟩ := hA.2 ⟨0, m.nest, lev0, m.below ++ [m.at_]⟩ rfl hn rfl
 rw [h1]
 show runM m1 [c] = _
 rw [runM_one (after_shut h4 h5 hc h2), h3]
 show some (Mc.mk 8 (max 0 n + 1) m.at_ m.below) = _
 rw [Nat.max_eq_right (Nat.zero_le n)]
theorem okk_chain1 {A : List Lt} {n : Nat} {p : Pt} (hp : p = .maxes ∨ p = .ands ∨ p = .ors) (h : Okk .unary A n) : Okk p A n := by
 have h0 : (∃ t r, A = t :: r ∧ begT t ∧ t.kind ≠ 15 ∧ t.kind ≠ 16) ∧ (∀ m, m.state = 1 → m.nest = 0 → m.at_.nots = 0 → m.at_.signed = false → ∃ m', runM m A = some m' ∧ m'.below = m.below ∧ m'.at_.signed = false ∧ max m'.at_.most (m'.at_.nots + m'.nest) = max m.at_.most n ∧ 4 ≤ m'.state ∧ m'.state ≤ 9) := by
  refine ⟨h.1, fun m h1 h2 h3 h4 => ?_⟩
  obtain ⟨m', e, a1, a2, a3, a4, a5, a6⟩ := h.2 m h1 h2
  exact ⟨m', e, a1, a3.trans h4, by rw [a2, a4, h3, Nat.zero_add], a5, a6⟩
 rcases hp with rfl | rfl | rfl <;> exact h0
theorem okk_chain2 {A B : List Lt} {b : Lt} {n k : Nat} {p q : Pt} (hp : p = .maxes ∨ p = .ands ∨ p = .ors) (hq : q = .unary ∨ q = .maxes ∨ q = .ands) (h : Okk p A n) (hb : b.kind = 4 ∨ b.kind = 5 ∨ b.kind = 17) (h2 : Okk q B k) : Okk p (A ++ b :: B) (max n k) := by
 have hA : (∃ t r, A = t :: r ∧ begT t ∧ t.kind ≠ 15 ∧ t.kind ≠ 16) ∧ (∀ m, m.state = 1 → m.nest = 0 → m.at_.nots = 0 → m.at_.signed = false → ∃ m', runM m A = some m' ∧ m'.below = m.below ∧ m'.at_.signed = false ∧ max m'.at_.most (m'.at_.nots + m'.nest) = max m.at_.most n ∧ 4 ≤ m'.state ∧ m'.state ≤ 9) := by
  rcases hp with rfl | rfl | rfl <;> exact h
 have hB : Okk .maxes B k := by
  rcases hq with rfl | rfl | rfl
  ·exact okk_chain1 (.inl rfl) h2
  ·exact h2
  ·exact h2
 have h0 : (∃ t r, A ++ b :: B = t :: r ∧ begT t ∧ t.kind ≠ 15 ∧ t.kind ≠ 16) ∧ (∀ m, m.state = 1 → m.nest = 0 → m.at_.nots = 0 → m.at_.signed = false → ∃ m', runM m (A ++ b :: B) = some m' ∧ m'.below = m.below ∧ m'.at_.signed = false ∧ max m'.at_.most (m'.at_.nots + m'.nest) = max m.at_.most (max n k) ∧ 4 ≤ m'.state ∧ m'.state ≤ 9) := by
  obtain ⟨⟨t, r, rfl, ht⟩, hA⟩ := hA
  refine ⟨⟨t, r ++ b :: B, rfl, ht⟩, fun m h1 h2 h3 h4 => ?_⟩
  obtain ⟨m1, e1, a1, a2, a3, a4, a5⟩ := hA m h1 h2 h3 h4
  obtain ⟨m2, e2, b1, b2, b3, b4, b5⟩ := hB.2 (m1.close.to 1) rfl rfl rfl a2
  refine ⟨m2, ?_, b1.trans a1, b2, ?_, b4, b5⟩
  ·rw [runM_append, e1]
   show runM m1 (b :: B) = _
   rw [runM_cons (after_mark a4 a5 hb a2), e2]
  ·rw [b3]
   show max (max m1.at_.most (m1.at_.nots + m1.nest)) k = _
   rw [a3, Nat.max_assoc]
 rcases hp with rfl | rfl | rfl <;> exact h0
theorem unary_at0 {m : Mc} {t : Lt} (h0 : m.state = 0) (ht : t.kind ≠ 15 ∧ t.kind ≠ 16) : stepM m t = stepM ((m.sgn false).to 1) t := by
 rw [step_clause t h0, step_unary t rfl]
 unfold clauseM
 rw [if_neg (by omega)]
 unfold unaryM bodyM
 rfl
theorem D.okk {p : Pt} {A : List Lt} {n : Nat} {v : Vl} (h : D p A n v) : Okk p A n := by
 induction h with
 | word ht =>
  intro m hm hn
  obtain ⟨s, hs, e⟩ := step_word hm ht
  exact ⟨_, runM_one e, aft_to hn (by omega) (by omega)⟩
 | edits ht hu hk =>
  intro m hm hn
  obtain ⟨s, hs, e⟩ := step_word hm ht
  exact ⟨m.to 9, by rw [runM_cons e]; exact runM_one (tilde_word hs hu hk), aft_to hn (by omega) (by omega)⟩
 | pat ht =>
  intro m hm hn
  obtain ⟨s, hs, e⟩ := step_pat hm ht
  exact ⟨_, runM_one e, aft_to hn (by omega) (by omega)⟩
 | quo ht =>
  intro m hm hn
  exact ⟨_, runM_one (step_quo hm ht), aft_to hn (by omega) (by omega)⟩
 | slop ht hu hk =>
  intro m hm hn
  exact ⟨m.to 9, by rw [runM_cons (step_quo hm ht)]; exact runM_one (tilde_quo hu hk), aft_to hn (by omega) (by omega)⟩
 | span ha hb hc hd he =>
  intro m hm hn
  refine ⟨m.to 9, ?_, aft_to hn (by omega) (by omega)⟩
  rw [runM_cons (step_square hm ha), runM_cons (m' := m.to 11) (by unfold stepM sideM; simp [Mc.to, hb]),
   runM_cons (m' := m.to 12) (by unfold stepM; simp [Mc.to, hc]), runM_cons (m' := m.to 13) (by unfold stepM sideM; simp [Mc.to, hd]),
   runM_one (m' := m.to 9) (by unfold stepM; simp only [Mc.to, Nat.reduceEqDiff, if_false, if_true, reduceIte]; rw [if_pos he])]
 | group ho hA hc ih =>
  intro m hm hn
  exact ⟨_, run_inner hm hn ho hc ih, rfl, rfl, rfl, rfl, by show 4 ≤ 8; decide, by show 8 ≤ 9; decide⟩
 | @least o c l A n v ho hA hc hl ih =>
  intro m hm hn
  have e : o :: (A ++ [c, l]) = (o :: (A ++ [c])) ++ [l] := by simp
  refine ⟨⟨9, n + 1, m.at_, m.below⟩, ?_, rfl, rfl, rfl, rfl, by show 4 ≤ 9; decide, by show 9 ≤ 9; decide⟩
  rw [e, runM_append, run_inner hm hn ho hc ih]
  refine runM_one ?_
  rw [step_after l (by show 4 ≤ 8; decide) (by show 8 ≤ 9; decide)]
  unfold afterM
  rw [if_neg (by simp), if_neg (by simp), if_neg (by omega), if_pos ⟨rfl, hl⟩]; rfl
 | leafB _ ih => exact ih
 | groupB _ ih => exact ih
 | @bodyA A n v h ih =>
  refine ⟨?_, fun m h1 hn => ih m (.inl h1) hn⟩
  have hb : D .body A n v := h
  cases h with
  | leafB h =>
   cases h <;> exact ⟨_, _, rfl, by unfold begT; omega, by omega, by omega⟩
  | groupB h =>
   cases h <;> exact ⟨_, _, rfl, by unfold begT; omega, by omega, by omega⟩
 | @field w c A n v hw hc hA ih =>
  refine ⟨⟨_, _, rfl, by unfold begT; omega, by omega, by omega⟩, fun m h1 hn => ?_⟩
  obtain ⟨m', e, a⟩ := ih (m.to 2) (.inr rfl) hn
  refine ⟨m', ?_, a⟩
  rw [runM_cons (m' := m.to 4) (by rw [step_unary w h1]; unfold unaryM; simp [hw]), runM_cons (m' := m.to 2) ?_, e]
  rw [step_after c (by show 4 ≤ 4; decide) (by show 4 ≤ 9; decide)]
  unfold afterM
  rw [if_pos ⟨rfl, hc⟩]; rfl
 | @all s c t hs hc ht =>
  have hk : s.kind = 2 := by simp [starT] at hs; exact hs.1
  refine ⟨⟨_, _, rfl, by unfold begT; omega, by omega, by omega⟩, fun m h1 hn => ?_⟩
  refine ⟨m.to 9, ?_, aft_to hn (by omega) (by omega)⟩
  rw [runM_cons (m' := m.to 6) (by rw [step_unary s h1]; unfold unaryM; simp [hk, hs]), runM_cons (m' := m.to 3) ?_, runM_one (m' := m.to 9) (by unfold stepM; simp [Mc.to, ht])]
  rw [step_after c (by show 4 ≤ 6; decide) (by show 6 ≤ 9; decide)]
  unfold afterM
  rw [if_neg (by simp [Mc.to]), if_pos ⟨rfl, hc⟩]; rfl
 | atomP _ ih => exact ih
 | @sfx b A n v hA hb ih =>
  obtain ⟨⟨t, r, rfl, ht⟩, ih⟩ := ih
  refine ⟨⟨t, r ++ [b], rfl, ht⟩, fun m h1 hn => ?_⟩
  obtain ⟨m', e, a1, a2, a3, a4, a5, a6⟩ := ih m h1 hn
  refine ⟨⟨9, m'.nest + 1, m'.at_, m'.below⟩, ?_, a1, a2, a3, by show m'.at_.nots + (m'.nest + 1) = _; omega, by show 4 ≤ 9; decide, by show 9 ≤ 9; decide⟩
  rw [runM_append, e]
  exact runM_one (after_sfx a5 a6 hb)
 | pieceU _ ih => exact ih
 | @not t A n v ht hA ih =>
  refine ⟨⟨_, _, rfl, by unfold begT; omega, by omega, by omega⟩, fun m h1 hn => ?_⟩
  obtain ⟨m', e, a1, a2, a3, a4, a5, a6⟩ := ih.2 ⟨1, m.nest, ⟨m.at_.most, m.at_.nots + 1, m.at_.signed⟩, m.below⟩ rfl hn
  refine ⟨m', ?_, a1, a2, a3, by rw [a4]; show m.at_.nots + 1 + n = _; omega, a5, a6⟩
  rw [runM_cons ?_, e]
  rw [step_unary t h1]; unfold unaryM; rw [if_pos ht]
 | maxU _ ih => exact okk_chain1 (.inl rfl) ih
 | bar hA hb hB ih1 ih2 => exact okk_chain2 (.inl rfl) (.inl rfl) ih1 (by omega) ih2
 | andM _ ih => exact ih
 | and hA hb hB ih1 ih2 => exact okk_chain2 (.inr (.inl rfl)) (.inr (.inl rfl)) ih1 (by omega) ih2
 | orA _ ih => exact ih
 | or hA hb hB ih1 ih2 => exact okk_chain2 (.inr (.inr rfl)) (.inr (.inr rfl)) ih1 (by omega) ih2
 | clauseO _ ih =>
  obtain ⟨⟨t, r, rfl, ht, h15, h16⟩, ih⟩ := ih
  refine ⟨⟨t, r, rfl, ht⟩, fun m h0 hn hz => ?_⟩
  obtain ⟨m', e, a1, a2, a3, a4, a5⟩ := ih ((m.sgn false).to 1) rfl hn hz rfl
  refine ⟨m', ?_, a1, a3, a4, a5⟩
  rw [runM, unary_at0 h0 ⟨h15, h16⟩]
  exact e
 | @sign s A n v hs hA ih =>
  refine ⟨⟨s, A, rfl, by unfold begT; omega⟩, fun m h0 hn hz => ?_⟩
  obtain ⟨m', e, a1, a2, a3, a4, a5, a6⟩ := ih.2 ((m.sgn true).to 1) rfl hn
  refine ⟨m', ?_, a1, ?_, a5, a6⟩
  ·rw [runM_cons ?_, e]
   rw [step_clause s h0]; unfold clauseM; rw [if_pos hs]
  ·rw [a2, a4]
   show max m.at_.most (m.at_.nots + n) = _
   rw [hz, Nat.zero_add]
 | one _ ih => exact ih
 | @more A B n k v u hA hB ih1 ih2 =>
  obtain ⟨⟨t, r, rfl, ht⟩, ih1⟩ := ih1
  refine ⟨⟨t, r ++ B, rfl, ht⟩, fun m h0 hn hz => ?_⟩
  obtain ⟨m1, e1, a1, a2, a3, a4⟩ := ih1 m h0 hn hz
  obtain ⟨⟨t2, r2, rfl, ht2⟩, ih2⟩ := ih2
  obtain ⟨m2, e2, b1, b2, b3, b4⟩ := ih2 (m1.close.to 0) rfl rfl rfl
  refine ⟨m2, ?_, b1.trans a1, ?_, b3, b4⟩
  ·rw [runM_append, e1]
   show runM m1 (t2 :: r2) = _
   rw [← e2, runM, runM, after_clause a3 a4 ht2, step_clause t2 rfl]
  ·rw [b2]
   show max (max m1.at_.most (m1.at_.nots + m1.nest)) k = _
   rw [a2, Nat.max_assoc]
theorem D.run {A : List Lt} {e : Lt} {n : Nat} {v : Vl} (h : D .list A n v) (he : e.kind = 0) : ∃ m, runM mc0 (A ++ [e]) = some m ∧ m.state = 14 ∧ m.at_.most = n := by
 obtain ⟨m, e1, a1, a2, a3, a4⟩ := h.okk.2 mc0 rfl rfl rfl
 refine ⟨m.close.to 14, ?_, rfl, ?_⟩
 ·rw [runM_append, e1]
  exact runM_one (after_end a3 a4 he a1)
 ·show max m.at_.most (m.at_.nots + m.nest) = n
  rw [a2]; exact Nat.max_eq_right (Nat.zero_le n)
end Go.Proofs.YtcomdkejpaoneaaDoor
end
section
namespace Go.Proofs.YtcomdkejpaoneaaDoor
open Go.RowKit
set_option maxRecDepth 100000
set_option maxHeartbeats 1000000
set_option linter.unusedSimpArgs false
set_option linter.unusedVariables false
def ltS : Shape Lt := { tS := 42, tE := 49, size := 5, bytes := 48, enc := fun x => [.int .i64 x.kind, .string (str x.text), .int .i64 x.n, .int .i64 x.at_, .int .i64 x.end_], zero := .agg #[.int .i64 0, .string ⟨#[]⟩, .int .i64 0, .int .i64 0, .int .i64 0] }
theorem ltOk : ltS.Ok where
 under := Tryd.underlying42
 info := by kernel_rfl
 zs := rfl
 pos := by decide
 len := fun _ => rfl
 one := fun x u hu => by
  simp only [ltS, List.mem_cons, List.not_mem_nil, or_false] at hu
  rcases hu with rfl | rfl | rfl | rfl | rfl <;> rfl
 small := by decide
def levS : Shape Lev := { tS := 65, tE := 64, size := 3, bytes := 24, enc := fun x => [.int .i64 x.most, .int .i64 x.nots, .bool x.signed], zero := .agg #[.int .i64 0, .int .i64 0, .bool false] }
theorem levOk : levS.Ok where
 under := Tryd.underlying65
 info := by kernel_rfl
 zs := rfl
 pos := by decide
 len := fun _ => rfl
 one := fun x u hu => by
  simp only [levS, List.mem_cons, List.not_mem_nil, or_false] at hu
  rcases hu with rfl | rfl | rfl <;> rfl
 small := by decide
def ltVal (t : Lt) : Value := .agg #[.int .i64 t.kind, .string (str t.text), .int .i64 t.n, .int .i64 t.at_, .int .i64 t.end_]
def Lx.lt (x : Lx) : Lt := ⟨x.kind, x.text, x.n, (x.at_ : Int), (x.end_ : Int)⟩
theorem lt_cells (l : List Lx) : ltS.cells (l.map Lx.lt) = lexS.cells l := by
 induction l with
 | nil => rfl
 | cons x l ih =>
  have e1 : ltS.cells ((x :: l).map Lx.lt) = ltS.enc x.lt ++ ltS.cells (l.map Lx.lt) := rfl
  have e2 : lexS.cells (x :: l) = lexS.enc x ++ lexS.cells l := rfl
  rw [e1, e2, ih]; rfl
theorem OwnL.lt {w : World} {B : Nat} {v : Value} {l : List Lx} (h : OwnL lexS w B v l) : OwnL ltS w B v (l.map Lx.lt) := by
 unfold OwnL at h ⊢
 rw [lt_cells, List.length_map]; exact h
structure McAt (w : World) (B mb : Nat) (v : Value) (m : Mc) : Prop where
 blk : Blk w mb 67 #[.int .i64 (m.state : Int), .int .i64 (m.nest : Int), .int .i64 (m.at_.most : Int), .int .i64 (m.at_.nots : Int), .bool m.at_.signed, v]
 own : OwnL levS w B v m.below
 hB : B ≤ w.heap.size
 hm : B ≤ mb
section
variable {w w' : World} {B mb : Nat} {v : Value} {m : Mc}
theorem McAt.below (h : McAt w B mb v m) (hb : Below w.heap.size w w') : McAt w' B mb v m := ⟨h.blk.belowW hb, h.own.below hb, Nat.le_trans h.hB hb.size, h.hm⟩
theorem McAt.drew (h : McAt w B mb v m) : McAt w.drew B mb v m := h.below (Below.refl _ _).drew
theorem McAt.alloc (h : McAt w B mb v m) (o : Obj) : McAt (w.alloc o) B mb v m := h.below ((Below.refl _ _).alloc (Nat.le_refl _) _)
theorem McAt.set_ (h : McAt w B mb v m) (i : Nat) (u : Value) (m' : Mc)
  (hc : #[.int .i64 (m.state : Int), .int .i64 (m.nest : Int), .int .i64 (m.at_.most : Int), .int .i64 (m.at_.nots : Int), .bool m.at_.signed, v].setIfInBounds i u = #[.int .i64 (m'.state : Int), .int .i64 (m'.nest : Int), .int .i64 (m'.at_.most : Int), .int .i64 (m'.at_.nots : Int), .bool m'.at_.signed, v]) (hl : m'.below = m.below) : McAt (w.setCell ⟨mb, i, none⟩ u) B mb v m' := by
 refine ⟨hc ▸ h.blk.set_ i u, ?_, by rw [set_size]; exact h.hB, h.hm⟩
 rw [hl]
 exact h.own.farNe (h.own.offBlk h.blk (by decide)) _
theorem McAt.setState (h : McAt w B mb v m) (s : Nat) : McAt (w.setCell ⟨mb, 0, none⟩ (.int .i64 (s : Int))) B mb v (m.to s) := h.set_ 0 _ (m.to s) (by rfl) rfl
theorem McAt.facts (h : McAt w B mb v m) : (w.cell? ⟨mb, 0, none⟩ = some (.int .i64 (m.state : Int)) ∧ w.cell? ⟨mb, 1, none⟩ = some (.int .i64 (m.nest : Int)) ∧ w.cell? ⟨mb, 2, none⟩ = some (.int .i64 (m.at_.most : Int)) ∧ w.cell? ⟨mb, 3, none⟩ = some (.int .i64 (m.at_.nots : Int)) ∧ w.cell? ⟨mb, 4, none⟩ = some (.bool m.at_.signed) ∧ w.cell? ⟨mb, 5, none⟩ = some v) ∧
  (w.frozen? ⟨mb, 0, none⟩ = false ∧ w.frozen? ⟨mb, 1, none⟩ = false ∧ w.frozen? ⟨mb, 2, none⟩ = false ∧ w.frozen? ⟨mb, 3, none⟩ = false ∧ w.frozen? ⟨mb, 4, none⟩ = false ∧ w.frozen? ⟨mb, 5, none⟩ = false) ∧ mb < w.heap.size :=
 ⟨⟨h.blk.cell 0, h.blk.cell 1, h.blk.cell 2, h.blk.cell 3, h.blk.cell 4, h.blk.cell 5⟩, ⟨h.blk.frozen 0, h.blk.frozen 1, h.blk.frozen 2, h.blk.frozen 3, h.blk.frozen 4, h.blk.frozen 5⟩, h.blk.lt⟩
end
def StRet (B mb : Nat) (w : World) (r : Option Mc) (e : Ending) (w' : World) : Prop :=
 Below B w w' ∧ match r with
  | some m' => e = .returned (.bool true) ∧ ∃ v', McAt w' B mb v' m'
  | none => e = .returned (.bool false)
theorem StRet.good {B mb : Nat} {w w' : World} {r : Option Mc} {e : Ending} {m' : Mc} {v' : Value} (hb : Below B w w') (hr : r = some m') (he : e = .returned (.bool true)) (h : McAt w' B mb v' m') : StRet B mb w r e w' := by
 subst hr; exact ⟨hb, he, v', h⟩
theorem StRet.bad {B mb : Nat} {w w' : World} {r : Option Mc} {e : Ending} (hb : Below B w w') (hr : r = none) (he : e = .returned (.bool false)) : StRet B mb w r e w' := by
 subst hr; exact ⟨hb, he⟩
structure McB (m : Mc) : Prop where
 nest : m.nest ≤ 1000000000
 most : m.at_.most ≤ 1000000000
 nots : m.at_.nots ≤ 1000000000
 below : m.below.length ≤ 1000000000
theorem str_star (l : List UInt8) : ((str l).toList == [42]) = decide (l = [42]) := by
 rw [ba_toList]
 show (l == [42]) = _
 by_cases h : l = [42]
 ·subst h; rfl
 ·rw [decide_eq_false h]; simpa using h
end Go.Proofs.YtcomdkejpaoneaaDoor
end
section
namespace Go.Proofs.YtcomdkejpaoneaaDoor
open Go.RowKit
set_option maxRecDepth 100000
set_option maxHeartbeats 4000000
set_option linter.unusedSimpArgs false
set_option linter.unusedVariables false
theorem star_any (t : Lt) (w : World) :
  Calls Tryd.prog 81 #[ltVal t] w fun e w' => e = .returned (.bool (starT t)) ∧ Below w.heap.size w w' := by
 obtain ⟨k, tx, n, a, b⟩ := t
 have hst := str_star tx
 unfold starT ltVal
 simp only []
 by_cases hk : k = 2
 ·subst hk
  by_cases ht : tx = [42]
  ·rw [decide_eq_true ht] at hst
   rw [decide_eq_true (rfl : (2 : Int) = 2), decide_eq_true ht]
   clear ht
   generalize str tx = s at *
   go_enter Tryd.func81, Tryd.ntmps81
   go_wp2
   go_ret
   exact ⟨rfl, (Below.refl _ _).alloc (Nat.le_refl _) _⟩
  ·rw [decide_eq_false ht] at hst
   rw [decide_eq_true (rfl : (2 : Int) = 2), decide_eq_false ht]
   clear ht
   generalize str tx = s at *
   go_enter Tryd.func81, Tryd.ntmps81
   go_wp2
   go_ret
   exact ⟨rfl, (Below.refl _ _).alloc (Nat.le_refl _) _⟩
 ·rw [decide_eq_false hk]
  have e2 : (k == 2) = false := by simpa using hk
  clear hst
  go_enter Tryd.func81, Tryd.ntmps81
  go_wp2
  go_ret
  exact ⟨rfl, (Below.refl _ _).alloc (Nat.le_refl _) _⟩
theorem close_any (w : World) (B mb : Nat) (v : Value) (m : Mc) (h : McAt w B mb v m) (hb : McB m) :
  Calls Tryd.prog 97 #[.pointer (some ⟨mb, 0, none⟩)] w fun e w' => e = .returned (.tuple #[]) ∧ Below B w w' ∧ McAt w' B mb v m.close := by
 obtain ⟨⟨c0, c1, c2, c3, c4, c5⟩, ⟨f0, f1, f2, f3, f4, f5⟩, hlt⟩ := h.facts
 have H := LH h
 have hn1 := hb.nest; have hn2 := hb.most; have hn3 := hb.nots
 have hw1 : IntKind.i64.wrap ((m.at_.nots : Int) + (m.nest : Int)) = (m.at_.nots : Int) + (m.nest : Int) := IntWalk.i64_in _ (by omega)
 clear h hb
 go_enter Tryd.func97, Tryd.ntmps97
 go_wp2
 go_region
 have e : (if (m.at_.most : Int) < (m.at_.nots : Int) + (m.nest : Int) then (m.at_.nots : Int) + (m.nest : Int) else (m.at_.most : Int)) = ((max m.at_.most (m.at_.nots + m.nest) : Nat) : Int) := by
  split <;> omega
 generalize (if (m.at_.most : Int) < (m.at_.nots : Int) + (m.nest : Int) then (m.at_.nots : Int) + (m.nest : Int) else (m.at_.most : Int)) = z at *
 subst e
 go_wp2
 go_end0
 have h1 := H.out.set_ 2 (.int .i64 ((max m.at_.most (m.at_.nots + m.nest) : Nat) : Int)) ⟨m.state, m.nest, ⟨max m.at_.most (m.at_.nots + m.nest), m.at_.nots, m.at_.signed⟩, m.below⟩ (by rfl) rfl
 have h2 := h1.set_ 3 (.int .i64 0) ⟨m.state, m.nest, ⟨max m.at_.most (m.at_.nots + m.nest), 0, m.at_.signed⟩, m.below⟩ (by rfl) rfl
 have h3 := h2.set_ 1 (.int .i64 0) m.close (by rfl) rfl
 exact ⟨rfl, ((((Below.refl B w).setCell (p := ⟨mb, 2, none⟩) H.out.hm _).setCell (p := ⟨mb, 3, none⟩) H.out.hm _).setCell (p := ⟨mb, 1, none⟩) H.out.hm _).drew, h3.drew⟩
theorem side_any (t : Lt) (s : Nat) (w : World) (B mb : Nat) (v : Value) (m : Mc) (h : McAt w B mb v m) :
  Calls Tryd.prog 82 #[.pointer (some ⟨mb, 0, none⟩), ltVal t, .int .i64 (s : Int)] w (StRet B mb w (sideM m t s)) := by
 obtain ⟨k, tx, n, a, b⟩ := t
 have hstar := star_any ⟨k, tx, n, a, b⟩ (w.alloc (.cells #[.int .i64 k, .string (str tx), .int .i64 n, .int .i64 a, .int .i64 b] 49))
 have hA := h.alloc (.cells #[.int .i64 k, .string (str tx), .int .i64 n, .int .i64 a, .int .i64 b] 49)
 have hBA : Below w.heap.size w (w.alloc (.cells #[.int .i64 k, .string (str tx), .int .i64 n, .int .i64 a, .int .i64 b] 49)) := (Below.refl _ _).alloc (Nat.le_refl _) _
 have H := LH h; have HA := LH hA; have HBA := LH hBA
 have HST := LH hstar
 obtain ⟨-, ⟨f0, f1, f2, f3, f4, f5⟩, hlt⟩ := h.facts
 obtain ⟨⟨c0, c1, c2, c3, c4, c5⟩, -, -⟩ := h.facts
 have hS : sideT ⟨k, tx, n, a, b⟩ = (decide (k = 1) || decide (k = 3) || starT ⟨k, tx, n, a, b⟩) := rfl
 clear hA hBA hstar h
 unfold ltVal at *
 simp only [] at *
 by_cases h1 : k = 1
 ·have HR := LH (show sideM m ⟨k, tx, n, a, b⟩ s = some (m.to s) from by unfold sideM; rw [if_pos]; rw [hS]; simp [h1])
  have e1 : (k == 1) = true := by simpa using h1
  clear hS h1
  go_enter Tryd.func82, Tryd.ntmps82
  go_wp2
  go_ret
  exact StRet.good (((Below.refl B w).setCell (p := ⟨mb, 0, none⟩) H.out.hm _).alloc (by rw [set_size]; exact H.out.hB) _) HR.out rfl ((H.out.setState s).alloc _)
 ·have e1 : (k == 1) = false := by simpa using h1
  by_cases h3 : k = 3
  ·have HR := LH (show sideM m ⟨k, tx, n, a, b⟩ s = some (m.to s) from by unfold sideM; rw [if_pos]; rw [hS]; simp [h3])
   have e3 : (k == 3) = true := by simpa using h3
   clear hS h1 h3
   go_enter Tryd.func82, Tryd.ntmps82
   go_wp2
   go_ret
   exact StRet.good (((Below.refl B w).setCell (p := ⟨mb, 0, none⟩) H.out.hm _).alloc (by rw [set_size]; exact H.out.hB) _) HR.out rfl ((H.out.setState s).alloc _)
  ·have e3 : (k == 3) = false := by simpa using h3
   rw [decide_eq_false h1, decide_eq_false h3, Bool.false_or, Bool.false_or] at hS
   cases hst : starT ⟨k, tx, n, a, b⟩ with
   | true =>
    have HR := LH (show sideM m ⟨k, tx, n, a, b⟩ s = some (m.to s) from by unfold sideM; rw [if_pos (hS.trans hst)])
    have HV := LH hst
    clear hS h1 h3 hst
    go_enter Tryd.func82, Tryd.ntmps82
    go_wp2_with fail
    refine HST.out.mono ?_
    rintro e w2 ⟨rfl, hb2⟩
    rw [HV.out]
    have HA2 := LH (HA.out.below hb2)
    have HB2 := LH (HBA.out.trans (hb2.mono HBA.out.size))
    obtain ⟨-, ⟨g0, g1, g2, g3, g4, g5⟩, hlt2⟩ := HA2.out.facts
    obtain ⟨⟨d0, d1, d2, d3, d4, d5⟩, -, -⟩ := HA2.out.facts
    clear hb2
    go_wp2
    go_ret
    exact StRet.good ((HB2.out.mono H.out.hB).setCell (p := ⟨mb, 0, none⟩) H.out.hm _) HR.out rfl (HA2.out.setState s)
   | false =>
    have HR := LH (show sideM m ⟨k, tx, n, a, b⟩ s = none from by unfold sideM; rw [if_neg (by rw [hS, hst]; decide)])
    have HV := LH hst
    clear hS h1 h3 hst
    go_enter Tryd.func82, Tryd.ntmps82
    go_wp2_with fail
    refine HST.out.mono ?_
    rintro e w2 ⟨rfl, hb2⟩
    rw [HV.out]
    have HB2 := LH (HBA.out.trans (hb2.mono HBA.out.size))
    clear hb2
    go_wp2
    go_ret
    exact StRet.bad (HB2.out.mono H.out.hB) HR.out rfl
end Go.Proofs.YtcomdkejpaoneaaDoor
end
