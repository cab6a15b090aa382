/- Merged for a claim by shake.py: Ha Ma Mb -/
import Derived.Test.YtcomdkejpaoneaaDoorKg1
import Derived.Test.YtcomdkejpaoneaaDoorKg11
import Derived.Test.YtcomdkejpaoneaaDoorKg12
import Derived.Test.YtcomdkejpaoneaaDoorKg5
section
namespace Go.Proofs.YtcomdkejpaoneaaDoor
set_option linter.unusedSimpArgs false
set_option linter.unusedVariables false
def Dv (p : Pt) (ts : List Lt) : Prop := ∃ n v, D p ts n v
def IsW (p : Pt) (ts : List Lt) (c : Nat) : Prop := (c = 1 ∧ Dv p ts) ∨ (c = 0 ∧ ¬ Dv p ts)
theorem IsW.le {p : Pt} {ts : List Lt} {c : Nat} (h : IsW p ts c) : c ≤ 1 := by rcases h with ⟨h, _⟩ | ⟨h, _⟩ <;> omega
theorem IsW.yes {p : Pt} {ts : List Lt} (h : Dv p ts) : IsW p ts 1 := .inl ⟨rfl, h⟩
theorem IsW.no {p : Pt} {ts : List Lt} (h : ¬ Dv p ts) : IsW p ts 0 := .inr ⟨rfl, h⟩
theorem IsW.one {p : Pt} {ts : List Lt} {c : Nat} (h : IsW p ts c) (hd : Dv p ts) : c = 1 := by
  rcases h with ⟨h, _⟩ | ⟨_, h⟩
  · exact h
  · exact absurd hd h
theorem IsW.zero {p : Pt} {ts : List Lt} {c : Nat} (h : IsW p ts c) (hd : ¬ Dv p ts) : c = 0 := by
  rcases h with ⟨_, h⟩ | ⟨h, _⟩
  · exact absurd h hd
  · exact h
theorem IsW.pos {p : Pt} {ts : List Lt} {c : Nat} (h : IsW p ts c) (hc : c ≠ 0) : Dv p ts := by
  rcases h with ⟨_, h⟩ | ⟨h, _⟩
  · exact h
  · exact absurd h hc
theorem IsW.of {p : Pt} {ts : List Lt} {c : Nat} (h1 : Dv p ts → c = 1) (h2 : ¬ Dv p ts → c = 0) : IsW p ts c := by
  by_cases h : Dv p ts
  · exact .inl ⟨h1 h, h⟩
  · exact .inr ⟨h2 h, h⟩
theorem dv_ne {p : Pt} {ts : List Lt} (h : Dv p ts) : ts ≠ [] := by
  obtain ⟨n, v, h⟩ := h
  intro e
  have := h.calm.2.2.1
  rw [e] at this
  exact absurd this (by decide)
def leafN : List Lt → Nat
  | [t] => if t.kind = 1 ∨ t.kind = 2 ∨ t.kind = 3 then 1 else 0
  | [t, u] => (if t.kind = 1 ∧ u.kind = 20 ∧ (u.n = -1 ∨ u.n = 1 ∨ u.n = 2) then 1 else 0) + (if t.kind = 3 ∧ u.kind = 20 ∧ 0 ≤ u.n then 1 else 0)
  | [a, b, c, d, e] => if (a.kind = 10 ∨ a.kind = 12) ∧ (e.kind = 11 ∨ e.kind = 13) ∧ sideT b = true ∧ c.kind = 7 ∧ sideT d = true then 1 else 0
  | _ => 0
theorem leafD_hd {ts : List Lt} (h : Dv .leaf ts) : ∃ t r, ts = t :: r ∧ (t.kind = 1 ∨ t.kind = 2 ∨ t.kind = 3 ∨ t.kind = 10 ∨ t.kind = 12) := by
  obtain ⟨n, v, h⟩ := h
  cases h <;> exact ⟨_, _, rfl, by omega⟩
theorem isW_leaf (ts : List Lt) : IsW .leaf ts (leafN ts) := by
  refine IsW.of (fun h => ?_) (fun h => ?_)
  · obtain ⟨n, v, h⟩ := h
    cases h with
    | word h => simp [leafN, h]
    | edits h1 h2 h3 => simp [leafN, h1, h2, h3]
    | pat h => simp [leafN, h]
    | quo h => simp [leafN, h]
    | slop h1 h2 h3 => simp [leafN, h1, h2, h3]
    | span h1 h2 h3 h4 h5 => simp [leafN, h1, h2, h3, h4, h5]
  · match ts with
    | [] => rfl
    | [t] =>
      show (if t.kind = 1 ∨ t.kind = 2 ∨ t.kind = 3 then 1 else 0) = 0
      rw [if_neg]
      rintro (h1 | h1 | h1)
      · exact h ⟨_, _, .word h1⟩
      · exact h ⟨_, _, .pat h1⟩
      · exact h ⟨_, _, .quo h1⟩
    | [t, u] =>
      show (if t.kind = 1 ∧ u.kind = 20 ∧ (u.n = -1 ∨ u.n = 1 ∨ u.n = 2) then 1 else 0) + (if t.kind = 3 ∧ u.kind = 20 ∧ 0 ≤ u.n then 1 else 0) = 0
      rw [if_neg (fun h1 => h ⟨_, _, .edits h1.1 h1.2.1 h1.2.2⟩), if_neg (fun h1 => h ⟨_, _, .slop h1.1 h1.2.1 h1.2.2⟩)]
    | [_, _, _] => rfl
    | [_, _, _, _] => rfl
    | [a, b, c, d, e] =>
      show (if (a.kind = 10 ∨ a.kind = 12) ∧ (e.kind = 11 ∨ e.kind = 13) ∧ sideT b = true ∧ c.kind = 7 ∧ sideT d = true then 1 else 0) = 0
      rw [if_neg (fun h1 => h ⟨_, _, .span h1.1 h1.2.2.1 h1.2.2.2.1 h1.2.2.2.2 h1.2.1⟩)]
    | _ :: _ :: _ :: _ :: _ :: _ :: _ => rfl
theorem dv_group {o : Lt} {r : List Lt} : Dv .group (o :: r) ↔ o.kind = 8 ∧ ((∃ A c, r = A ++ [c] ∧ c.kind = 9 ∧ Dv .list A) ∨ ∃ A c l, r = A ++ [c, l] ∧ c.kind = 9 ∧ l.kind = 21 ∧ Dv .list A) := by
  constructor
  · rintro ⟨n, v, h⟩
    generalize hts : o :: r = ts at h
    cases h with
    | group h1 h2 h3 =>
      injection hts with e1 e2
      subst e1 e2
      exact ⟨h1, .inl ⟨_, _, rfl, h3, _, _, h2⟩⟩
    | least h1 h2 h3 h4 =>
      injection hts with e1 e2
      subst e1 e2
      exact ⟨h1, .inr ⟨_, _, _, rfl, h3, h4, _, _, h2⟩⟩
  · rintro ⟨h1, ⟨A, c, rfl, h3, n, v, h2⟩ | ⟨A, c, l, rfl, h3, h4, n, v, h2⟩⟩
    · exact ⟨_, _, .group h1 h2 h3⟩
    · exact ⟨_, _, .least h1 h2 h3 h4⟩
theorem isW_group_no {o : Lt} {r : List Lt} (h : o.kind ≠ 8) : IsW .group (o :: r) 0 := .no fun h2 => h (dv_group.1 h2).1
theorem isW_group {o : Lt} {r : List Lt} {x y : Nat} (ho : o.kind = 8) (h1 : (x = 0 ∧ ¬ ∃ A c, r = A ++ [c] ∧ c.kind = 9 ∧ Dv .list A) ∨ (∃ A c, r = A ++ [c] ∧ c.kind = 9 ∧ IsW .list A x))
    (h2 : (y = 0 ∧ ¬ ∃ A c l, r = A ++ [c, l] ∧ c.kind = 9 ∧ l.kind = 21 ∧ Dv .list A) ∨ (∃ A c l, r = A ++ [c, l] ∧ c.kind = 9 ∧ l.kind = 21 ∧ IsW .list A y)) : IsW .group (o :: r) (x + y) := by
  rcases h1 with ⟨rfl, hx⟩ | ⟨A, c, rfl, hc, hA⟩
  · rcases h2 with ⟨rfl, hy⟩ | ⟨B, d, l, rfl, hd, hl, hB⟩
    · exact .no fun h => by
        rcases (dv_group.1 h).2 with h | h
        · exact hx h
        · exact hy h
    · rw [Nat.zero_add]
      refine IsW.of (fun h => hB.one ?_) (fun h => hB.zero fun hb => h (dv_group.2 ⟨ho, .inr ⟨B, d, l, rfl, hd, hl, hb⟩⟩))
      rcases (dv_group.1 h).2 with h | ⟨B2, d2, l2, e, _, _, h⟩
      · exact absurd h hx
      · have := List.append_inj_left' e rfl
        rw [this]; exact h
  · have hno : ¬ ∃ A2 c2 l, A ++ [c] = A2 ++ [c2, l] ∧ c2.kind = 9 ∧ l.kind = 21 ∧ Dv .list A2 := by
      rintro ⟨A2, c2, l, e, _, hl, _⟩
      rw [show A2 ++ [c2, l] = (A2 ++ [c2]) ++ [l] from by simp] at e
      have := List.append_inj_right' e rfl
      injection this with e1 _
      rw [e1] at hc; omega
    rcases h2 with ⟨rfl, hy⟩ | ⟨B, d, l, e, hd, hl, hB⟩
    · rw [Nat.add_zero]
      refine IsW.of (fun h => hA.one ?_) (fun h => hA.zero fun hb => h (dv_group.2 ⟨ho, .inl ⟨A, c, rfl, hc, hb⟩⟩))
      rcases (dv_group.1 h).2 with ⟨B2, d2, e, _, h⟩ | h
      · have := List.append_inj_left' e rfl
        rw [this]; exact h
      · exact absurd h hno
    · rw [show B ++ [d, l] = (B ++ [d]) ++ [l] from by simp] at e
      have := List.append_inj_right' e rfl
      injection this with e1 _
      rw [e1] at hc; omega
theorem dv_body {ts : List Lt} : Dv .body ts ↔ Dv .leaf ts ∨ Dv .group ts := by
  constructor
  · rintro ⟨n, v, h⟩
    cases h with
    | leafB h => exact .inl ⟨_, _, h⟩
    | groupB h => exact .inr ⟨_, _, h⟩
  · rintro (⟨n, v, h⟩ | ⟨n, v, h⟩)
    · exact ⟨_, _, .leafB h⟩
    · exact ⟨_, _, .groupB h⟩
theorem isW_sum {p q r : Pt} {ts us : List Lt} {x y : Nat} (h1 : IsW p ts x) (h2 : IsW q us y) (hd : Dv r ts ↔ Dv p ts ∨ Dv q us) (hn : ¬ (Dv p ts ∧ Dv q us)) : IsW r ts (x + y) := by
  rcases h1 with ⟨rfl, h1⟩ | ⟨rfl, h1⟩
  · rw [h2.zero fun h => hn ⟨h1, h⟩]
    exact .yes (hd.2 (.inl h1))
  · rw [Nat.zero_add]
    refine IsW.of (fun h => h2.one ((hd.1 h).resolve_left h1)) (fun h => h2.zero fun hb => h (hd.2 (.inr hb)))
theorem isW_body {ts : List Lt} {x y : Nat} (h1 : IsW .leaf ts x) (h2 : IsW .group ts y) : IsW .body ts (x + y) := by
  refine isW_sum h1 h2 dv_body ?_
  rintro ⟨ha, hb⟩
  obtain ⟨t, r, rfl, ht⟩ := leafD_hd ha
  have := (dv_group.1 hb).1
  omega
theorem body_snd {t u : Lt} {r : List Lt} (h : Dv .body (t :: u :: r)) : u.kind ≠ 14 := by
  rcases dv_body.1 h with h | h
  · obtain ⟨n, v, h⟩ := h
    generalize hts : t :: u :: r = ts at h
    cases h with
    | edits h1 h2 _ => injection hts with _ e; injection e with e _; subst e; omega
    | slop h1 h2 _ => injection hts with _ e; injection e with e _; subst e; omega
    | span _ h2 _ _ _ => injection hts with _ e; injection e with e _; subst e; simp [sideT, starT] at h2; omega
    | _ => injection hts with _ e; cases e
  · rcases (dv_group.1 h).2 with ⟨A, c, e, hc, hA⟩ | ⟨A, c, l, e, hc, hl, hA⟩
    · obtain ⟨n, v, hA⟩ := hA
      obtain ⟨⟨t0, r0, rfl, hb⟩, _⟩ := hA.okk
      injection e with e _
      subst e; unfold begT at hb; omega
    · obtain ⟨n, v, hA⟩ := hA
      obtain ⟨⟨t0, r0, rfl, hb⟩, _⟩ := hA.okk
      injection e with e _
      subst e; unfold begT at hb; omega
theorem dv_atom {ts : List Lt} : Dv .atom ts ↔ Dv .body ts ∨ (∃ w c r, ts = w :: c :: r ∧ w.kind = 1 ∧ c.kind = 14 ∧ Dv .body r) ∨ ∃ s c t, ts = [s, c, t] ∧ starT s = true ∧ c.kind = 14 ∧ starT t = true := by
  constructor
  · rintro ⟨n, v, h⟩
    cases h with
    | bodyA h => exact .inl ⟨_, _, h⟩
    | field h1 h2 h3 => exact .inr (.inl ⟨_, _, _, rfl, h1, h2, _, _, h3⟩)
    | all h1 h2 h3 => exact .inr (.inr ⟨_, _, _, rfl, h1, h2, h3⟩)
  · rintro (⟨n, v, h⟩ | ⟨w, c, r, rfl, h1, h2, n, v, h⟩ | ⟨s, c, t, rfl, h1, h2, h3⟩)
    · exact ⟨_, _, .bodyA h⟩
    · exact ⟨_, _, .field h1 h2 h⟩
    · exact ⟨_, _, .all h1 h2 h3⟩
theorem isW_atom0 {ts : List Lt} {x : Nat} (h1 : IsW .body ts x) (hc : ∀ t u r, ts = t :: u :: r → u.kind ≠ 14) : IsW .atom ts x := by
  refine IsW.of (fun h => h1.one ?_) (fun h => h1.zero fun hb => h (dv_atom.2 (.inl hb)))
  rcases dv_atom.1 h with h | ⟨w, c, r, e, _, h2, _⟩ | ⟨s, c, t, e, _, h2, _⟩
  · exact h
  · exact absurd h2 (hc _ _ _ e)
  · exact absurd h2 (hc _ _ _ e)
theorem isW_atom_field {w c : Lt} {r : List Lt} {x y : Nat} (h1 : IsW .body (w :: c :: r) x) (hc : c.kind = 14) (hw : w.kind = 1) (h2 : IsW .body r y) : IsW .atom (w :: c :: r) (x + y) := by
  rw [h1.zero fun h => body_snd h hc, Nat.zero_add]
  refine IsW.of (fun h => h2.one ?_) (fun h => h2.zero fun hb => h (dv_atom.2 (.inr (.inl ⟨w, c, r, rfl, hw, hc, hb⟩))))
  rcases dv_atom.1 h with h | ⟨w2, c2, r2, e, _, _, h⟩ | ⟨s, c2, t, e, h, _, _⟩
  · exact absurd hc (body_snd h)
  · injection e with _ e; injection e with _ e; rw [e]; exact h
  · injection e with e _; rw [e] at hw; simp [starT] at h; omega
theorem isW_atom_all {s c t : Lt} {x : Nat} (h1 : IsW .body [s, c, t] x) (hs : starT s = true) (hc : c.kind = 14) (ht : starT t = true) : IsW .atom [s, c, t] (x + 1) := by
  rw [h1.zero fun h => body_snd h hc]
  exact .yes (dv_atom.2 (.inr (.inr ⟨s, c, t, rfl, hs, hc, ht⟩)))
theorem isW_atom_no {s c : Lt} {r : List Lt} {x : Nat} (h1 : IsW .body (s :: c :: r) x) (hc : c.kind = 14) (hw : s.kind ≠ 1) (hn : ¬ ∃ t, r = [t] ∧ starT s = true ∧ starT t = true) : IsW .atom (s :: c :: r) x := by
  rw [h1.zero fun h => body_snd h hc]
  refine .no fun h => ?_
  rcases dv_atom.1 h with h | ⟨w2, c2, r2, e, h, _, _⟩ | ⟨s2, c2, t, e, h, _, h3⟩
  · exact absurd hc (body_snd h)
  · injection e with e _; rw [e] at hw; exact hw h
  · injection e with e e2; injection e2 with _ e2; rw [e] at hn; exact hn ⟨t, e2, h, h3⟩
theorem atm_last {ts : List Lt} (h : Dv .atom ts) : ∃ B t, ts = B ++ [t] ∧ t.kind ≠ 18 ∧ t.kind ≠ 19 := by
  have hbody : ∀ {ts : List Lt}, Dv .body ts → ∃ B t, ts = B ++ [t] ∧ t.kind ≠ 18 ∧ t.kind ≠ 19 := by
    intro ts h
    rcases dv_body.1 h with h | h
    · obtain ⟨n, v, h⟩ := h
      cases h with
      | word h => exact ⟨[], _, rfl, by omega, by omega⟩
      | @edits t u h1 h2 _ => exact ⟨[t], u, rfl, by omega, by omega⟩
      | pat h => exact ⟨[], _, rfl, by omega, by omega⟩
      | quo h => exact ⟨[], _, rfl, by omega, by omega⟩
      | @slop t u h1 h2 _ => exact ⟨[t], u, rfl, by omega, by omega⟩
      | @span a b c d e h1 h2 _ _ h5 => exact ⟨[a, b, c, d], e, rfl, by omega, by omega⟩
    · cases ts with
      | nil => exact absurd rfl (dv_ne h)
      | cons o r =>
        rcases (dv_group.1 h).2 with ⟨A, c, rfl, hc, _⟩ | ⟨A, c, l, rfl, hc, hl, _⟩
        · exact ⟨o :: A, c, rfl, by omega, by omega⟩
        · exact ⟨o :: (A ++ [c]), l, by simp, by omega, by omega⟩
  rcases dv_atom.1 h with h | ⟨w, c, r, rfl, _, _, h⟩ | ⟨s, c, t, rfl, _, _, h⟩
  · exact hbody h
  · obtain ⟨B, t, rfl, ht⟩ := hbody h
    exact ⟨w :: c :: B, t, rfl, ht⟩
  · exact ⟨[s, c], t, rfl, by simp [starT] at h; omega, by simp [starT] at h; omega⟩
theorem dv_piece {ts : List Lt} : Dv .piece ts ↔ Dv .atom ts ∨ ∃ A b, ts = A ++ [b] ∧ (b.kind = 18 ∨ b.kind = 19) ∧ Dv .piece A := by
  constructor
  · rintro ⟨n, v, h⟩
    cases h with
    | atomP h => exact .inl ⟨_, _, h⟩
    | sfx h hb => exact .inr ⟨_, _, rfl, hb, _, _, h⟩
  · rintro (⟨n, v, h⟩ | ⟨A, b, rfl, hb, n, v, h⟩)
    · exact ⟨_, _, .atomP h⟩
    · exact ⟨_, _, .sfx h hb⟩
theorem isW_piece0 {ts : List Lt} {x : Nat} (h1 : IsW .atom ts x) (hl : ∀ A b, ts = A ++ [b] → b.kind ≠ 18 ∧ b.kind ≠ 19) : IsW .piece ts x := by
  refine IsW.of (fun h => h1.one ?_) (fun h => h1.zero fun hb => h (dv_piece.2 (.inl hb)))
  rcases dv_piece.1 h with h | ⟨A, b, e, hb, _⟩
  · exact h
  · have := hl A b e; omega
theorem isW_piece1 {A : List Lt} {b : Lt} {x y : Nat} (h1 : IsW .atom (A ++ [b]) x) (hb : b.kind = 18 ∨ b.kind = 19) (h2 : IsW .piece A y) : IsW .piece (A ++ [b]) (x + y) := by
  have hno : ¬ Dv .atom (A ++ [b]) := by
    intro h
    obtain ⟨B, t, e, h3, h4⟩ := atm_last h
    have := List.append_inj_right' e rfl
    injection this with e1 _
    rw [e1] at hb; omega
  rw [h1.zero hno, Nat.zero_add]
  refine IsW.of (fun h => h2.one ?_) (fun h => h2.zero fun hb2 => h (dv_piece.2 (.inr ⟨A, b, rfl, hb, hb2⟩)))
  rcases dv_piece.1 h with h | ⟨A2, b2, e, _, h⟩
  · exact absurd h hno
  · rw [List.append_inj_left' e rfl]; exact h
theorem pc_hd {ts : List Lt} (h : Dv .piece ts) : ∃ t r, ts = t :: r ∧ t.kind ≠ 6 := by
  obtain ⟨n, v, h⟩ := h
  generalize hp : Pt.piece = p at h
  induction h with
  | @atomP A n v h _ =>
    rcases dv_atom.1 ⟨_, _, h⟩ with h | ⟨w, c, r, rfl, h, _, _⟩ | ⟨s, c, t, rfl, h, _, _⟩
    · rcases dv_body.1 h with h | h
      · obtain ⟨t, r, rfl, ht⟩ := leafD_hd h
        exact ⟨t, r, rfl, by omega⟩
      · cases A with
        | nil => exact absurd rfl (dv_ne h)
        | cons o r => exact ⟨o, r, rfl, by have := (dv_group.1 h).1; omega⟩
    · exact ⟨_, _, rfl, by omega⟩
    · exact ⟨_, _, rfl, by simp [starT] at h; omega⟩
  | @sfx b A n v h hb ih =>
    obtain ⟨t, r, rfl, ht⟩ := ih rfl
    exact ⟨t, r ++ [b], rfl, ht⟩
  | _ => cases hp
theorem dv_unary {ts : List Lt} : Dv .unary ts ↔ Dv .piece ts ∨ ∃ t r, ts = t :: r ∧ t.kind = 6 ∧ Dv .unary r := by
  constructor
  · rintro ⟨n, v, h⟩
    cases h with
    | pieceU h => exact .inl ⟨_, _, h⟩
    | not h1 h2 => exact .inr ⟨_, _, rfl, h1, _, _, h2⟩
  · rintro (⟨n, v, h⟩ | ⟨t, r, rfl, h1, n, v, h⟩)
    · exact ⟨_, _, .pieceU h⟩
    · exact ⟨_, _, .not h1 h⟩
theorem isW_unary0 {t : Lt} {r : List Lt} {x : Nat} (h1 : IsW .piece (t :: r) x) (ht : t.kind ≠ 6) : IsW .unary (t :: r) x := by
  refine IsW.of (fun h => h1.one ?_) (fun h => h1.zero fun hb => h (dv_unary.2 (.inl hb)))
  rcases dv_unary.1 h with h | ⟨t2, r2, e, h, _⟩
  · exact h
  · injection e with e _; rw [e] at ht; exact absurd h ht
theorem isW_unary1 {t : Lt} {r : List Lt} {x y : Nat} (h1 : IsW .piece (t :: r) x) (ht : t.kind = 6) (h2 : IsW .unary r y) : IsW .unary (t :: r) (x + y) := by
  have hno : ¬ Dv .piece (t :: r) := by
    intro h
    obtain ⟨t2, r2, e, h⟩ := pc_hd h
    injection e with e _; rw [e] at ht; exact h ht
  rw [h1.zero hno, Nat.zero_add]
  refine IsW.of (fun h => h2.one ?_) (fun h => h2.zero fun hb => h (dv_unary.2 (.inr ⟨t, r, rfl, ht, hb⟩)))
  rcases dv_unary.1 h with h | ⟨t2, r2, e, _, h⟩
  · exact absurd h hno
  · injection e with _ e; rw [e]; exact h
def sumF (f : Nat → Nat) (a : Nat) : Nat → Nat
  | 0 => 0
  | n + 1 => sumF f a n + f (a + n)
theorem sumF_zero {f : Nat → Nat} {a n : Nat} (h : ∀ k, k < n → f (a + k) = 0) : sumF f a n = 0 := by
  induction n with
  | zero => rfl
  | succ n ih => rw [sumF, ih fun k hk => h k (by omega), h n (by omega)]
theorem sumF_one {f : Nat → Nat} {a n k0 : Nat} (hk : k0 < n) (h1 : f (a + k0) = 1) (h : ∀ k, k < n → k ≠ k0 → f (a + k) = 0) : sumF f a n = 1 := by
  induction n with
  | zero => omega
  | succ n ih =>
    rw [sumF]
    by_cases hn : k0 = n
    · subst hn
      rw [sumF_zero fun k hk2 => h k (by omega) (by omega), h1]
    · rw [ih (by omega) (fun k hk2 hne => h k (by omega) hne), h n (by omega) (by omega)]
theorem isW_split {p q : Pt} {ts : List Lt} {x : Nat} {f : Nat → Nat} {a n : Nat} (h1 : IsW q ts x) (S : Nat → Prop) (hS : ∀ k, S k → a ≤ k ∧ k < a + n) (hd : Dv p ts ↔ Dv q ts ∨ ∃ k, S k) (hn : Dv q ts → ¬ ∃ k, S k) (hu : ∀ k l, S k → S l → k = l)
    (hf : ∀ k, a ≤ k → k < a + n → (f k = 1 ∧ S k) ∨ (f k = 0 ∧ ¬ S k)) : IsW p ts (x + sumF f a n) := by
  by_cases hs : ∃ k, S k
  · obtain ⟨k, hk⟩ := hs
    have hb := hS k hk
    have e : sumF f a n = 1 := by
      refine sumF_one (k0 := k - a) (by omega) ?_ ?_
      · rcases hf k hb.1 hb.2 with h | h
        · rw [show a + (k - a) = k from by omega]; exact h.1
        · exact absurd hk h.2
      · intro l hl hne
        rcases hf (a + l) (by omega) (by omega) with h | h
        · have := hu _ _ hk h.2; omega
        · exact h.1
    rw [h1.zero fun h => hn h ⟨k, hk⟩, e]
    exact .yes (hd.2 (.inr ⟨k, hk⟩))
  · have e : sumF f a n = 0 := sumF_zero fun k hk => by
      rcases hf (a + k) (by omega) (by omega) with h | h
      · exact absurd ⟨_, h.2⟩ hs
      · exact h.1
    rw [e, Nat.add_zero]
    exact IsW.of (fun h => h1.one ((hd.1 h).resolve_right hs)) (fun h => h1.zero fun hb => h (hd.2 (.inl hb)))
def lastS (l : List (Nat × Nat)) : Nat := (l.getLast?.map (·.1)).getD 0
theorem chRng_last (i : Nat) (B0 : List Lt) (v0 : Vl) (r : List Cp) (y : Cp) : lastS (chRng i B0 (r ++ [y])) = i + (chToks B0 r).length + 1 := by
  induction r generalizing i B0 v0 with
  | nil => simp [chRng, chToks, lastS]
  | cons x r ih =>
    have h := ih (i + B0.length + 1) x.A x.v
    have e : chRng i B0 (x :: r ++ [y]) = (i, i + B0.length) :: chRng (i + B0.length + 1) x.A (r ++ [y]) := rfl
    have hne : chRng (i + B0.length + 1) x.A (r ++ [y]) ≠ [] := by cases r <;> simp [chRng]
    rw [e]
    have e2 : lastS ((i, i + B0.length) :: chRng (i + B0.length + 1) x.A (r ++ [y])) = lastS (chRng (i + B0.length + 1) x.A (r ++ [y])) := by
      unfold lastS
      rw [List.getLast?_cons, List.getLast?_eq_some_getLast hne]; rfl
    rw [e2, h]
    simp [chToks]; omega
structure ChOk (p q : Pt) (m : Int) : Prop where
  dec : ∀ ts, Dv p ts ↔ Dv q ts ∨ ∃ A b B, ts = A ++ b :: B ∧ b.kind = m ∧ Dv p A ∧ Dv q B
  low : ∀ ts, Dv q ts → lastS (cutI m 0 0 0 ts) = 0
  last : ∀ A b B, b.kind = m → Dv p A → Dv q B → lastS (cutI m 0 0 0 (A ++ b :: B)) = A.length + 1
theorem low_of {q : Pt} {m : Int} (hm : m = 4 ∨ m = 5 ∨ m = 17) (hq : okm q m) (ts : List Lt) (h : Dv q ts) : lastS (cutI m 0 0 0 ts) = 0 := by
  obtain ⟨n, v, h⟩ := h
  have := h.calm.1 m 0 0 0 [] hm (Int.le_refl _) (fun _ => hq)
  rw [List.append_nil] at this
  rw [this, cutI]; rfl
theorem last_of {p q : Pt} {m : Int} {wr : List (Int × Nd) → List (Int × Nd)} (hm : m = 4 ∨ m = 5 ∨ m = 17) (hq : okm q m) (hc : ∀ A n v, D p A n v → ∃ B0 v0 r, Chain q m wr A v B0 v0 r) (A : List Lt) (b : Lt) (B : List Lt) (hb : b.kind = m) (hA : Dv p A) (hB : Dv q B) : lastS (cutI m 0 0 0 (A ++ b :: B)) = A.length + 1 := by
  obtain ⟨n, v, hA⟩ := hA
  obtain ⟨k, u, hB⟩ := hB
  obtain ⟨B0, v0, r, hch⟩ := hc A n v hA
  have h2 := hch.snoc hb hB
  rw [chain_cut h2 hm hq 0, chRng_last 0 B0 v0 r ⟨b, B, u⟩, hch.toks]
  omega
theorem chOk_max : ChOk .maxes .unary 17 where
  dec := fun ts => by
    constructor
    · rintro ⟨n, v, h⟩
      cases h with
      | maxU h => exact .inl ⟨_, _, h⟩
      | bar h hb h2 => exact .inr ⟨_, _, _, rfl, hb, ⟨_, _, h⟩, ⟨_, _, h2⟩⟩
    · rintro (⟨n, v, h⟩ | ⟨A, b, B, rfl, hb, ⟨n, v, h⟩, ⟨m, u, h2⟩⟩)
      · exact ⟨_, _, .maxU h⟩
      · exact ⟨_, _, .bar h hb h2⟩
  low := low_of (by omega) (by simp [okm])
  last := last_of (wr := id) (by omega) (by simp [okm]) (fun A n v h => h.maxC)
theorem chOk_and : ChOk .ands .maxes 4 where
  dec := fun ts => by
    constructor
    · rintro ⟨n, v, h⟩
      cases h with
      | andM h => exact .inl ⟨_, _, h⟩
      | and h hb h2 => exact .inr ⟨_, _, _, rfl, hb, ⟨_, _, h⟩, ⟨_, _, h2⟩⟩
    · rintro (⟨n, v, h⟩ | ⟨A, b, B, rfl, hb, ⟨n, v, h⟩, ⟨m, u, h2⟩⟩)
      · exact ⟨_, _, .andM h⟩
      · exact ⟨_, _, .and h hb h2⟩
  low := low_of (by omega) (by simp [okm])
  last := last_of (wr := wrapN 12) (by omega) (by simp [okm]) (fun A n v h => h.andC)
theorem chOk_or : ChOk .ors .ands 5 where
  dec := fun ts => by
    constructor
    · rintro ⟨n, v, h⟩
      cases h with
      | orA h => exact .inl ⟨_, _, h⟩
      | or h hb h2 => exact .inr ⟨_, _, _, rfl, hb, ⟨_, _, h⟩, ⟨_, _, h2⟩⟩
    · rintro (⟨n, v, h⟩ | ⟨A, b, B, rfl, hb, ⟨n, v, h⟩, ⟨m, u, h2⟩⟩)
      · exact ⟨_, _, .orA h⟩
      · exact ⟨_, _, .or h hb h2⟩
  low := low_of (by omega) (by simp [okm])
  last := last_of (wr := wrapN 10) (by omega) (by simp [okm]) (fun A n v h => h.orC)
theorem isW_chain {p q : Pt} {m : Int} (hc : ChOk p q m) {ts : List Lt} {x : Nat} (h1 : IsW q ts x) {f : Nat → Nat}
    (hf : ∀ k, 1 ≤ k → k + 1 < ts.length → ∃ b, ts[k]? = some b ∧ ((b.kind ≠ m ∧ f k = 0) ∨ (b.kind = m ∧ ∃ y z, IsW p (ts.take k) y ∧ IsW q (ts.drop (k + 1)) z ∧ f k = y * z))) : IsW p ts (x + sumF f 1 (ts.length - 2)) := by
  have hsp : ∀ k b, ts[k]? = some b → ts = ts.take k ++ b :: ts.drop (k + 1) := by
    intro k b hb
    obtain ⟨hk, rfl⟩ := List.getElem?_eq_some_iff.1 hb
    rw [← List.drop_eq_getElem_cons hk, List.take_append_drop]
  refine isW_split h1 (fun k => ∃ b, ts[k]? = some b ∧ b.kind = m ∧ Dv p (ts.take k) ∧ Dv q (ts.drop (k + 1))) ?_ ?_ ?_ ?_ ?_
  · rintro k ⟨b, hb, hm, hA, hB⟩
    obtain ⟨hk, _⟩ := List.getElem?_eq_some_iff.1 hb
    have h3 : 1 ≤ k := by
      rcases Nat.eq_zero_or_pos k with h | h
      · subst h; exact absurd (by simp) (dv_ne hA)
      · exact h
    have h4 : k + 1 < ts.length := by
      rcases Nat.lt_or_ge (k + 1) ts.length with h | h
      · exact h
      · exact absurd (List.drop_eq_nil_of_le h) (dv_ne hB)
    omega
  · rw [hc.dec]
    constructor
    · rintro (h | ⟨A, b, B, rfl, hb, hA, hB⟩)
      · exact .inl h
      · refine .inr ⟨A.length, b, by rw [List.getElem?_append_right (Nat.le_refl _), Nat.sub_self]; rfl, hb, by rw [List.take_left]; exact hA, ?_⟩
        have e : (A ++ b :: B).drop (A.length + 1) = B := by
          rw [show A ++ b :: B = (A ++ [b]) ++ B from by simp, show A.length + 1 = (A ++ [b]).length from by simp, List.drop_left]
        rw [e]; exact hB
    · rintro (h | ⟨k, b, hb, hm, hA, hB⟩)
      · exact .inl h
      · exact .inr ⟨_, b, _, hsp k b hb, hm, hA, hB⟩
  · rintro hq ⟨k, b, hb, hm, hA, hB⟩
    have h5 := hc.low ts hq
    have h6 := hc.last _ b _ hm hA hB
    rw [← hsp k b hb, h5] at h6
    omega
  · rintro k l ⟨b, hb, hm, hA, hB⟩ ⟨b2, hb2, hm2, hA2, hB2⟩
    have h5 := hc.last _ b _ hm hA hB
    have h6 := hc.last _ b2 _ hm2 hA2 hB2
    rw [← hsp k b hb] at h5
    rw [← hsp l b2 hb2, h5] at h6
    obtain ⟨hk, _⟩ := List.getElem?_eq_some_iff.1 hb
    obtain ⟨hl, _⟩ := List.getElem?_eq_some_iff.1 hb2
    rw [List.length_take, List.length_take, Nat.min_eq_left (Nat.le_of_lt hk), Nat.min_eq_left (Nat.le_of_lt hl)] at h6
    omega
  · intro k hk1 hk2
    obtain ⟨b, hb, h⟩ := hf k hk1 (by omega)
    rcases h with ⟨hne, h0⟩ | ⟨hm, y, z, hy, hz, hfk⟩
    · exact .inr ⟨h0, fun ⟨b2, hb2, hm2, _⟩ => by rw [hb] at hb2; injection hb2 with hb2; rw [hb2] at hne; exact hne hm2⟩
    · rcases hy with ⟨rfl, hy⟩ | ⟨rfl, hy⟩
      · rcases hz with ⟨rfl, hz⟩ | ⟨rfl, hz⟩
        · exact .inl ⟨hfk, b, hb, hm, hy, hz⟩
        · exact .inr ⟨hfk, fun ⟨_, _, _, _, h⟩ => hz h⟩
      · exact .inr ⟨by rw [hfk, Nat.zero_mul], fun ⟨_, _, _, h, _⟩ => hy h⟩
theorem dv_clause {ts : List Lt} : Dv .clause ts ↔ Dv .ors ts ∨ ∃ s r, ts = s :: r ∧ (s.kind = 15 ∨ s.kind = 16) ∧ Dv .unary r := by
  constructor
  · rintro ⟨n, v, h⟩
    cases h with
    | clauseO h => exact .inl ⟨_, _, h⟩
    | sign h1 h2 => exact .inr ⟨_, _, rfl, h1, _, _, h2⟩
  · rintro (⟨n, v, h⟩ | ⟨s, r, rfl, h1, n, v, h⟩)
    · exact ⟨_, _, .clauseO h⟩
    · exact ⟨_, _, .sign h1 h⟩
theorem or_hd {t : Lt} {r : List Lt} (h : Dv .ors (t :: r)) : t.kind ≠ 15 ∧ t.kind ≠ 16 := by
  obtain ⟨n, v, h⟩ := h
  obtain ⟨⟨t1, r1, hA, _, h15, h16⟩, _⟩ := h.okk
  injection hA with h1 h2
  subst h1
  exact ⟨h15, h16⟩
theorem isW_clause0 {t : Lt} {r : List Lt} {x : Nat} (h1 : IsW .ors (t :: r) x) (ht : t.kind ≠ 15 ∧ t.kind ≠ 16) : IsW .clause (t :: r) x := by
  refine IsW.of (fun h => h1.one ?_) (fun h => h1.zero fun hb => h (dv_clause.2 (.inl hb)))
  rcases dv_clause.1 h with h | ⟨t2, r2, e, h, _⟩
  · exact h
  · injection e with e _; rw [e] at ht; omega
theorem isW_clause1 {t : Lt} {r : List Lt} {x y : Nat} (h1 : IsW .ors (t :: r) x) (ht : t.kind = 15 ∨ t.kind = 16) (h2 : IsW .unary r y) : IsW .clause (t :: r) (x + y) := by
  have hno : ¬ Dv .ors (t :: r) := fun h => by have := or_hd h; omega
  rw [h1.zero hno, Nat.zero_add]
  refine IsW.of (fun h => h2.one ?_) (fun h => h2.zero fun hb => h (dv_clause.2 (.inr ⟨t, r, rfl, ht, hb⟩)))
  rcases dv_clause.1 h with h | ⟨t2, r2, e, _, h⟩
  · exact absurd h hno
  · injection e with _ e; rw [e]; exact h
theorem dv_list {ts : List Lt} : Dv .list ts ↔ Dv .clause ts ∨ ∃ A B, ts = A ++ B ∧ Dv .list A ∧ Dv .clause B := by
  constructor
  · rintro ⟨n, v, h⟩
    cases h with
    | one h => exact .inl ⟨_, _, h⟩
    | more h h2 => exact .inr ⟨_, _, rfl, ⟨_, _, h⟩, ⟨_, _, h2⟩⟩
  · rintro (⟨n, v, h⟩ | ⟨A, B, rfl, ⟨n, v, h⟩, ⟨m, u, h2⟩⟩)
    · exact ⟨_, _, .one h⟩
    · exact ⟨_, _, .more h h2⟩
theorem clRng_last (i : Nat) (l : List Cl) (y : Cl) : lastS (clRng i (l ++ [y])) = i + (l.flatMap (·.A)).length := by
  induction l generalizing i with
  | nil => simp [clRng, lastS]
  | cons x l ih =>
    have e : clRng i (x :: l ++ [y]) = (i, i + x.A.length) :: clRng (i + x.A.length) (l ++ [y]) := rfl
    have hne : clRng (i + x.A.length) (l ++ [y]) ≠ [] := by cases l <;> simp [clRng]
    rw [e]
    have e2 : lastS ((i, i + x.A.length) :: clRng (i + x.A.length) (l ++ [y])) = lastS (clRng (i + x.A.length) (l ++ [y])) := by
      unfold lastS
      rw [List.getLast?_cons, List.getLast?_eq_some_getLast hne]; rfl
    rw [e2, ih, List.flatMap_cons, List.length_append]
    omega
theorem list_last {A B : List Lt} (hA : Dv .list A) (hB : Dv .clause B) : lastS (clI 0 0 0 0 (A ++ B)) = A.length := by
  obtain ⟨n, v, hA⟩ := hA
  obtain ⟨m, u, hB⟩ := hB
  obtain ⟨l, h0, rfl, rfl, h3⟩ := hA.listC
  have h := list_cl (l ++ [⟨B, u⟩]) (by simp) (fun x hx => by
    rcases List.mem_append.1 hx with hx | hx
    · exact h3 x hx
    · rw [List.mem_singleton.1 hx]; exact ⟨m, hB⟩) 0 0
  rw [List.flatMap_append] at h
  simp only [List.flatMap_cons, List.flatMap_nil, List.append_nil] at h
  rw [h, clRng_last, Nat.zero_add]
theorem clause_low {B : List Lt} (hB : Dv .clause B) : lastS (clI 0 0 0 0 B) = 0 := by
  obtain ⟨m, u, hB⟩ := hB
  have h := list_cl [⟨B, u⟩] (by simp) (fun x hx => by rw [List.mem_singleton.1 hx]; exact ⟨m, hB⟩) 0 0
  simp only [List.flatMap_cons, List.flatMap_nil, List.append_nil] at h
  rw [h]; rfl
theorem isW_list {ts : List Lt} {x : Nat} (h1 : IsW .clause ts x) {f : Nat → Nat} (hf : ∀ k, 1 ≤ k → k < ts.length → ∃ y z, IsW .list (ts.take k) y ∧ IsW .clause (ts.drop k) z ∧ f k = y * z) : IsW .list ts (x + sumF f 1 (ts.length - 1)) := by
  refine isW_split h1 (fun k => k ≤ ts.length ∧ Dv .list (ts.take k) ∧ Dv .clause (ts.drop k)) ?_ ?_ ?_ ?_ ?_
  · rintro k ⟨hk, hA, hB⟩
    have h3 : 1 ≤ k := by
      rcases Nat.eq_zero_or_pos k with h | h
      · subst h; exact absurd (by simp) (dv_ne hA)
      · exact h
    have h4 : k < ts.length := by
      rcases Nat.lt_or_ge k ts.length with h | h
      · exact h
      · exact absurd (List.drop_eq_nil_of_le h) (dv_ne hB)
    omega
  · rw [dv_list]
    constructor
    · rintro (h | ⟨A, B, rfl, hA, hB⟩)
      · exact .inl h
      · exact .inr ⟨A.length, by rw [List.length_append]; omega, by rw [List.take_left]; exact hA, by rw [List.drop_left]; exact hB⟩
    · rintro (h | ⟨k, hk, hA, hB⟩)
      · exact .inl h
      · exact .inr ⟨_, _, (List.take_append_drop k ts).symm, hA, hB⟩
  · rintro hq ⟨k, hk, hA, hB⟩
    have h5 := clause_low hq
    have h6 := list_last hA hB
    rw [List.take_append_drop, h5, List.length_take, Nat.min_eq_left hk] at h6
    subst h6
    exact dv_ne hA (by simp)
  · rintro k l ⟨hk, hA, hB⟩ ⟨hl, hA2, hB2⟩
    have h5 := list_last hA hB
    have h6 := list_last hA2 hB2
    rw [List.take_append_drop, List.length_take, Nat.min_eq_left hk] at h5
    rw [List.take_append_drop, List.length_take, Nat.min_eq_left hl] at h6
    omega
  · intro k hk1 hk2
    obtain ⟨y, z, hy, hz, hfk⟩ := hf k hk1 (by omega)
    rcases hy with ⟨rfl, hy⟩ | ⟨rfl, hy⟩
    · rcases hz with ⟨rfl, hz⟩ | ⟨rfl, hz⟩
      · exact .inl ⟨hfk, by omega, hy, hz⟩
      · exact .inr ⟨hfk, fun ⟨_, _, h⟩ => hz h⟩
    · exact .inr ⟨by rw [hfk, Nat.zero_mul], fun ⟨_, h, _⟩ => hy h⟩
end Go.Proofs.YtcomdkejpaoneaaDoor
end
section
namespace Go.Proofs.YtcomdkejpaoneaaDoor
open Go.RowKit
set_option maxRecDepth 100000
set_option maxHeartbeats 1000000
set_option linter.unusedSimpArgs false
set_option linter.unusedVariables false
def ltS : Shape Lt := { tS := 42, tE := 49, size := 5, bytes := 48, enc := fun x => [.int .i64 x.kind, .string (str x.text), .int .i64 x.n, .int .i64 x.at_, .int .i64 x.end_], zero := .agg #[.int .i64 0, .string ⟨#[]⟩, .int .i64 0, .int .i64 0, .int .i64 0] }
theorem ltOk : ltS.Ok where
  under := Tryd.underlying42
  info := by kernel_rfl
  zs := rfl
  pos := by decide
  len := fun _ => rfl
  one := fun x u hu => by
    simp only [ltS, List.mem_cons, List.not_mem_nil, or_false] at hu
    rcases hu with rfl | rfl | rfl | rfl | rfl <;> rfl
  small := by decide
def levS : Shape Lev := { tS := 65, tE := 64, size := 3, bytes := 24, enc := fun x => [.int .i64 x.most, .int .i64 x.nots, .bool x.signed], zero := .agg #[.int .i64 0, .int .i64 0, .bool false] }
theorem levOk : levS.Ok where
  under := Tryd.underlying65
  info := by kernel_rfl
  zs := rfl
  pos := by decide
  len := fun _ => rfl
  one := fun x u hu => by
    simp only [levS, List.mem_cons, List.not_mem_nil, or_false] at hu
    rcases hu with rfl | rfl | rfl <;> rfl
  small := by decide
def ltVal (t : Lt) : Value := .agg #[.int .i64 t.kind, .string (str t.text), .int .i64 t.n, .int .i64 t.at_, .int .i64 t.end_]
def Lx.lt (x : Lx) : Lt := ⟨x.kind, x.text, x.n, (x.at_ : Int), (x.end_ : Int)⟩
theorem lt_cells (l : List Lx) : ltS.cells (l.map Lx.lt) = lexS.cells l := by
  induction l with
  | nil => rfl
  | cons x l ih =>
    have e1 : ltS.cells ((x :: l).map Lx.lt) = ltS.enc x.lt ++ ltS.cells (l.map Lx.lt) := rfl
    have e2 : lexS.cells (x :: l) = lexS.enc x ++ lexS.cells l := rfl
    rw [e1, e2, ih]; rfl
theorem OwnL.lt {w : World} {B : Nat} {v : Value} {l : List Lx} (h : OwnL lexS w B v l) : OwnL ltS w B v (l.map Lx.lt) := by
  unfold OwnL at h ⊢
  rw [lt_cells, List.length_map]; exact h
structure McAt (w : World) (B mb : Nat) (v : Value) (m : Mc) : Prop where
  blk : Blk w mb 67 #[.int .i64 (m.state : Int), .int .i64 (m.nest : Int), .int .i64 (m.at_.most : Int), .int .i64 (m.at_.nots : Int), .bool m.at_.signed, v]
  own : OwnL levS w B v m.below
  hB : B ≤ w.heap.size
  hm : B ≤ mb
section
variable {w w' : World} {B mb : Nat} {v : Value} {m : Mc}
theorem McAt.below (h : McAt w B mb v m) (hb : Below w.heap.size w w') : McAt w' B mb v m := ⟨h.blk.belowW hb, h.own.below hb, Nat.le_trans h.hB hb.size, h.hm⟩
theorem McAt.drew (h : McAt w B mb v m) : McAt w.drew B mb v m := h.below (Below.refl _ _).drew
theorem McAt.alloc (h : McAt w B mb v m) (o : Obj) : McAt (w.alloc o) B mb v m := h.below ((Below.refl _ _).alloc (Nat.le_refl _) _)
theorem McAt.set_ (h : McAt w B mb v m) (i : Nat) (u : Value) (m' : Mc)
    (hc : #[.int .i64 (m.state : Int), .int .i64 (m.nest : Int), .int .i64 (m.at_.most : Int), .int .i64 (m.at_.nots : Int), .bool m.at_.signed, v].setIfInBounds i u = #[.int .i64 (m'.state : Int), .int .i64 (m'.nest : Int), .int .i64 (m'.at_.most : Int), .int .i64 (m'.at_.nots : Int), .bool m'.at_.signed, v]) (hl : m'.below = m.below) : McAt (w.setCell ⟨mb, i, none⟩ u) B mb v m' := by
  refine ⟨hc ▸ h.blk.set_ i u, ?_, by rw [set_size]; exact h.hB, h.hm⟩
  rw [hl]
  exact h.own.farNe (h.own.offBlk h.blk (by decide)) _
theorem McAt.setState (h : McAt w B mb v m) (s : Nat) : McAt (w.setCell ⟨mb, 0, none⟩ (.int .i64 (s : Int))) B mb v (m.to s) := h.set_ 0 _ (m.to s) (by rfl) rfl
theorem McAt.facts (h : McAt w B mb v m) : (w.cell? ⟨mb, 0, none⟩ = some (.int .i64 (m.state : Int)) ∧ w.cell? ⟨mb, 1, none⟩ = some (.int .i64 (m.nest : Int)) ∧ w.cell? ⟨mb, 2, none⟩ = some (.int .i64 (m.at_.most : Int)) ∧ w.cell? ⟨mb, 3, none⟩ = some (.int .i64 (m.at_.nots : Int)) ∧ w.cell? ⟨mb, 4, none⟩ = some (.bool m.at_.signed) ∧ w.cell? ⟨mb, 5, none⟩ = some v) ∧
    (w.frozen? ⟨mb, 0, none⟩ = false ∧ w.frozen? ⟨mb, 1, none⟩ = false ∧ w.frozen? ⟨mb, 2, none⟩ = false ∧ w.frozen? ⟨mb, 3, none⟩ = false ∧ w.frozen? ⟨mb, 4, none⟩ = false ∧ w.frozen? ⟨mb, 5, none⟩ = false) ∧ mb < w.heap.size :=
  ⟨⟨h.blk.cell 0, h.blk.cell 1, h.blk.cell 2, h.blk.cell 3, h.blk.cell 4, h.blk.cell 5⟩, ⟨h.blk.frozen 0, h.blk.frozen 1, h.blk.frozen 2, h.blk.frozen 3, h.blk.frozen 4, h.blk.frozen 5⟩, h.blk.lt⟩
end
def StRet (B mb : Nat) (w : World) (r : Option Mc) (e : Ending) (w' : World) : Prop :=
  Below B w w' ∧ match r with
    | some m' => e = .returned (.bool true) ∧ ∃ v', McAt w' B mb v' m'
    | none => e = .returned (.bool false)
theorem StRet.good {B mb : Nat} {w w' : World} {r : Option Mc} {e : Ending} {m' : Mc} {v' : Value} (hb : Below B w w') (hr : r = some m') (he : e = .returned (.bool true)) (h : McAt w' B mb v' m') : StRet B mb w r e w' := by
  subst hr; exact ⟨hb, he, v', h⟩
theorem StRet.bad {B mb : Nat} {w w' : World} {r : Option Mc} {e : Ending} (hb : Below B w w') (hr : r = none) (he : e = .returned (.bool false)) : StRet B mb w r e w' := by
  subst hr; exact ⟨hb, he⟩
structure McB (m : Mc) : Prop where
  nest : m.nest ≤ 1000000000
  most : m.at_.most ≤ 1000000000
  nots : m.at_.nots ≤ 1000000000
  below : m.below.length ≤ 1000000000
theorem str_star (l : List UInt8) : ((str l).toList == [42]) = decide (l = [42]) := by
  rw [ba_toList]
  show (l == [42]) = _
  by_cases h : l = [42]
  · subst h; rfl
  · rw [decide_eq_false h]; simpa using h
end Go.Proofs.YtcomdkejpaoneaaDoor
end
section
namespace Go.Proofs.YtcomdkejpaoneaaDoor
open Go.RowKit
set_option maxRecDepth 100000
set_option maxHeartbeats 4000000
set_option linter.unusedSimpArgs false
set_option linter.unusedVariables false
theorem star_any (t : Lt) (w : World) :
    Calls Tryd.prog 81 #[ltVal t] w fun e w' => e = .returned (.bool (starT t)) ∧ Below w.heap.size w w' := by
  obtain ⟨k, tx, n, a, b⟩ := t
  have hst := str_star tx
  unfold starT ltVal
  simp only []
  by_cases hk : k = 2
  · subst hk
    by_cases ht : tx = [42]
    · rw [decide_eq_true ht] at hst
      rw [decide_eq_true (rfl : (2 : Int) = 2), decide_eq_true ht]
      clear ht
      generalize str tx = s at *
      go_enter Tryd.func81, Tryd.ntmps81
      go_wp2
      go_ret
      exact ⟨rfl, (Below.refl _ _).alloc (Nat.le_refl _) _⟩
    · rw [decide_eq_false ht] at hst
      rw [decide_eq_true (rfl : (2 : Int) = 2), decide_eq_false ht]
      clear ht
      generalize str tx = s at *
      go_enter Tryd.func81, Tryd.ntmps81
      go_wp2
      go_ret
      exact ⟨rfl, (Below.refl _ _).alloc (Nat.le_refl _) _⟩
  · rw [decide_eq_false hk]
    have e2 : (k == 2) = false := by simpa using hk
    clear hst
    go_enter Tryd.func81, Tryd.ntmps81
    go_wp2
    go_ret
    exact ⟨rfl, (Below.refl _ _).alloc (Nat.le_refl _) _⟩
theorem close_any (w : World) (B mb : Nat) (v : Value) (m : Mc) (h : McAt w B mb v m) (hb : McB m) :
    Calls Tryd.prog 97 #[.pointer (some ⟨mb, 0, none⟩)] w fun e w' => e = .returned (.tuple #[]) ∧ Below B w w' ∧ McAt w' B mb v m.close := by
  obtain ⟨⟨c0, c1, c2, c3, c4, c5⟩, ⟨f0, f1, f2, f3, f4, f5⟩, hlt⟩ := h.facts
  have H := Lib.hid h
  have hn1 := hb.nest; have hn2 := hb.most; have hn3 := hb.nots
  have hw1 : IntKind.i64.wrap ((m.at_.nots : Int) + (m.nest : Int)) = (m.at_.nots : Int) + (m.nest : Int) := IntWalk.i64_in _ (by omega)
  clear h hb
  go_enter Tryd.func97, Tryd.ntmps97
  go_wp2
  go_region
  have e : (if (m.at_.most : Int) < (m.at_.nots : Int) + (m.nest : Int) then (m.at_.nots : Int) + (m.nest : Int) else (m.at_.most : Int)) = ((max m.at_.most (m.at_.nots + m.nest) : Nat) : Int) := by
    split <;> omega
  generalize (if (m.at_.most : Int) < (m.at_.nots : Int) + (m.nest : Int) then (m.at_.nots : Int) + (m.nest : Int) else (m.at_.most : Int)) = z at *
  subst e
  go_wp2
  go_end0
  have h1 := H.out.set_ 2 (.int .i64 ((max m.at_.most (m.at_.nots + m.nest) : Nat) : Int)) ⟨m.state, m.nest, ⟨max m.at_.most (m.at_.nots + m.nest), m.at_.nots, m.at_.signed⟩, m.below⟩ (by rfl) rfl
  have h2 := h1.set_ 3 (.int .i64 0) ⟨m.state, m.nest, ⟨max m.at_.most (m.at_.nots + m.nest), 0, m.at_.signed⟩, m.below⟩ (by rfl) rfl
  have h3 := h2.set_ 1 (.int .i64 0) m.close (by rfl) rfl
  exact ⟨rfl, ((((Below.refl B w).setCell (p := ⟨mb, 2, none⟩) H.out.hm _).setCell (p := ⟨mb, 3, none⟩) H.out.hm _).setCell (p := ⟨mb, 1, none⟩) H.out.hm _).drew, h3.drew⟩
theorem side_any (t : Lt) (s : Nat) (w : World) (B mb : Nat) (v : Value) (m : Mc) (h : McAt w B mb v m) :
    Calls Tryd.prog 82 #[.pointer (some ⟨mb, 0, none⟩), ltVal t, .int .i64 (s : Int)] w (StRet B mb w (sideM m t s)) := by
  obtain ⟨k, tx, n, a, b⟩ := t
  have hstar := star_any ⟨k, tx, n, a, b⟩ (w.alloc (.cells #[.int .i64 k, .string (str tx), .int .i64 n, .int .i64 a, .int .i64 b] 49))
  have hA := h.alloc (.cells #[.int .i64 k, .string (str tx), .int .i64 n, .int .i64 a, .int .i64 b] 49)
  have hBA : Below w.heap.size w (w.alloc (.cells #[.int .i64 k, .string (str tx), .int .i64 n, .int .i64 a, .int .i64 b] 49)) := (Below.refl _ _).alloc (Nat.le_refl _) _
  have H := Lib.hid h; have HA := Lib.hid hA; have HBA := Lib.hid hBA
  have HST := Lib.hid hstar
  obtain ⟨-, ⟨f0, f1, f2, f3, f4, f5⟩, hlt⟩ := h.facts
  obtain ⟨⟨c0, c1, c2, c3, c4, c5⟩, -, -⟩ := h.facts
  have hS : sideT ⟨k, tx, n, a, b⟩ = (decide (k = 1) || decide (k = 3) || starT ⟨k, tx, n, a, b⟩) := rfl
  clear hA hBA hstar h
  unfold ltVal at *
  simp only [] at *
  by_cases h1 : k = 1
  · have HR := Lib.hid (show sideM m ⟨k, tx, n, a, b⟩ s = some (m.to s) from by unfold sideM; rw [if_pos]; rw [hS]; simp [h1])
    have e1 : (k == 1) = true := by simpa using h1
    clear hS h1
    go_enter Tryd.func82, Tryd.ntmps82
    go_wp2
    go_ret
    exact StRet.good (((Below.refl B w).setCell (p := ⟨mb, 0, none⟩) H.out.hm _).alloc (by rw [set_size]; exact H.out.hB) _) HR.out rfl ((H.out.setState s).alloc _)
  · have e1 : (k == 1) = false := by simpa using h1
    by_cases h3 : k = 3
    · have HR := Lib.hid (show sideM m ⟨k, tx, n, a, b⟩ s = some (m.to s) from by unfold sideM; rw [if_pos]; rw [hS]; simp [h3])
      have e3 : (k == 3) = true := by simpa using h3
      clear hS h1 h3
      go_enter Tryd.func82, Tryd.ntmps82
      go_wp2
      go_ret
      exact StRet.good (((Below.refl B w).setCell (p := ⟨mb, 0, none⟩) H.out.hm _).alloc (by rw [set_size]; exact H.out.hB) _) HR.out rfl ((H.out.setState s).alloc _)
    · have e3 : (k == 3) = false := by simpa using h3
      rw [decide_eq_false h1, decide_eq_false h3, Bool.false_or, Bool.false_or] at hS
      cases hst : starT ⟨k, tx, n, a, b⟩ with
      | true =>
        have HR := Lib.hid (show sideM m ⟨k, tx, n, a, b⟩ s = some (m.to s) from by unfold sideM; rw [if_pos (hS.trans hst)])
        have HV := Lib.hid hst
        clear hS h1 h3 hst
        go_enter Tryd.func82, Tryd.ntmps82
        go_wp2_with fail
        refine HST.out.mono ?_
        rintro e w2 ⟨rfl, hb2⟩
        rw [HV.out]
        have HA2 := Lib.hid (HA.out.below hb2)
        have HB2 := Lib.hid (HBA.out.trans (hb2.mono HBA.out.size))
        obtain ⟨-, ⟨g0, g1, g2, g3, g4, g5⟩, hlt2⟩ := HA2.out.facts
        obtain ⟨⟨d0, d1, d2, d3, d4, d5⟩, -, -⟩ := HA2.out.facts
        clear hb2
        go_wp2
        go_ret
        exact StRet.good ((HB2.out.mono H.out.hB).setCell (p := ⟨mb, 0, none⟩) H.out.hm _) HR.out rfl (HA2.out.setState s)
      | false =>
        have HR := Lib.hid (show sideM m ⟨k, tx, n, a, b⟩ s = none from by unfold sideM; rw [if_neg (by rw [hS, hst]; decide)])
        have HV := Lib.hid hst
        clear hS h1 h3 hst
        go_enter Tryd.func82, Tryd.ntmps82
        go_wp2_with fail
        refine HST.out.mono ?_
        rintro e w2 ⟨rfl, hb2⟩
        rw [HV.out]
        have HB2 := Lib.hid (HBA.out.trans (hb2.mono HBA.out.size))
        clear hb2
        go_wp2
        go_ret
        exact StRet.bad (HB2.out.mono H.out.hB) HR.out rfl
end Go.Proofs.YtcomdkejpaoneaaDoor
end
