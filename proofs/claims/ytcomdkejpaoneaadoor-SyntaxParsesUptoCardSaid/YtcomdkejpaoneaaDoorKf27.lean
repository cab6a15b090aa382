/- Merged for a claim by shake.py: Rw Qk Tq -/
import Derived.Test.YtcomdkejpaoneaaDoorKf12
import Derived.Test.YtcomdkejpaoneaaDoorKf16
section
namespace Go.Proofs.YtcomdkejpaoneaaDoor
set_option linter.unusedSimpArgs false
set_option linter.unusedVariables false
structure Rw where
 at_ : Nat
 signed : Bool
 open_ : List Bool
def Rw.to (r : Rw) (s : Nat) : Rw := ⟨s, r.signed, r.open_⟩
def rAtom (t : Lt) (field : Bool) : Option Nat :=
 if t.kind = 1 then some (if field = true then 5 else 4)
 else if t.kind = 2 then some (if starT t = true ∧ field = false then 6 else 9)
 else if t.kind = 3 then some 7
 else if t.kind = 8 then some 0
 else if t.kind = 10 ∨ t.kind = 12 then some 10
 else none
def rBegun (r : Rw) (t : Lt) (field : Bool) : Option Rw :=
 if t.kind = 6 ∧ field = false then some (r.to 1)
 else match rAtom t field with
  | none => none
  | some a => if t.kind = 8 then some ⟨a, false, r.open_ ++ [r.signed]⟩ else some (r.to a)
def rClause (r : Rw) (t : Lt) : Option Rw :=
 if t.kind = 15 ∨ t.kind = 16 then some ⟨1, true, r.open_⟩ else rBegun ⟨r.at_, false, r.open_⟩ t false
def rBehind (r : Rw) (t : Lt) : Option Rw :=
 if t.kind = 18 ∨ t.kind = 19 then some (r.to 9)
 else if t.kind = 4 ∨ t.kind = 5 ∨ t.kind = 17 then if r.signed = true then none else some (r.to 1)
 else if t.kind = 9 then match r.open_.getLast? with
  | none => none
  | some b => some ⟨8, b, r.open_.dropLast⟩
 else if t.kind = 0 then if r.open_ = [] then some (r.to 14) else none
 else rClause r t
def rSpan (r : Rw) (t : Lt) : Option Rw :=
 if r.at_ = 10 ∨ r.at_ = 12 then (if sideT t = true then some (r.to (r.at_ + 1)) else none)
 else if r.at_ = 11 then (if t.kind = 7 then some (r.to 12) else none)
 else (if t.kind = 11 ∨ t.kind = 13 then some (r.to 9) else none)
def editsT (t : Lt) : Bool := decide (t.kind = 20) && (decide (t.n = -1) || decide (t.n = 1) || decide (t.n = 2))
def slopT (t : Lt) : Bool := decide (t.kind = 20) && decide (0 ≤ t.n)
def rStep (r : Rw) (t : Lt) : Option Rw :=
 if r.at_ = 14 then none
 else if r.at_ = 0 then rClause r t
 else if r.at_ = 1 then rBegun r t false
 else if r.at_ = 2 then rBegun r t true
 else if r.at_ = 3 then (if starT t = true then some (r.to 9) else none)
 else if 10 ≤ r.at_ ∧ r.at_ ≤ 13 then rSpan r t
 else if r.at_ = 4 then (if t.kind = 14 then some (r.to 2) else if editsT t = true then some (r.to 9) else rBehind r t)
 else if r.at_ = 6 then (if t.kind = 14 then some (r.to 3) else rBehind r t)
 else if r.at_ = 5 then (if editsT t = true then some (r.to 9) else rBehind r t)
 else if r.at_ = 7 then (if slopT t = true then some (r.to 9) else rBehind r t)
 else if r.at_ = 8 then (if t.kind = 21 then some (r.to 9) else rBehind r t)
 else rBehind r t
def Mc.row (m : Mc) : Rw := ⟨m.state, m.at_.signed, m.below.map (·.signed)⟩
theorem row_body {m : Mc} (t : Lt) : rBegun m.row t true = (bodyM m t).map Mc.row := by
 unfold rBegun bodyM rAtom
 by_cases h1 : t.kind = 1
 ·simp [h1, Mc.to, Rw.to, Mc.row]
 by_cases h2 : t.kind = 2
 ·simp [h2, Mc.to, Rw.to, Mc.row]
 by_cases h3 : t.kind = 3
 ·simp [h3, Mc.to, Rw.to, Mc.row]
 by_cases h10 : t.kind = 10 ∨ t.kind = 12
 ·have h8 : ¬ t.kind = 8 := by omega
  simp [h1, h2, h3, h8, h10, Mc.to, Rw.to, Mc.row]
 by_cases h8 : t.kind = 8
 ·simp [h8, Mc.to, Rw.to, Mc.row, lev0]
 ·simp [h1, h2, h3, h8, h10]
theorem row_unary {m : Mc} (t : Lt) : rBegun m.row t false = (unaryM m t).map Mc.row := by
 unfold unaryM
 by_cases h6 : t.kind = 6
 ·unfold rBegun
  simp [h6, Mc.to, Rw.to, Mc.row]
 rw [if_neg h6]
 by_cases h1 : t.kind = 1
 ·unfold rBegun rAtom
  simp [h1, Mc.to, Rw.to, Mc.row]
 rw [if_neg h1]
 by_cases hs : starT t = true
 ·have h2 : t.kind = 2 := by simp [starT] at hs; exact hs.1
  unfold rBegun rAtom
  simp [h2, hs, Mc.to, Rw.to, Mc.row]
 rw [if_neg hs, ← row_body]
 unfold rBegun rAtom
 simp [h6, h1, hs]
theorem row_clause {m : Mc} (t : Lt) : rClause m.row t = (clauseM m t).map Mc.row := by
 unfold rClause clauseM
 by_cases h : t.kind = 15 ∨ t.kind = 16
 ·rw [if_pos h, if_pos h]; rfl
 ·rw [if_neg h, if_neg h, ← row_unary]; rfl
theorem clause_none {m : Mc} {t : Lt} (h : t.kind = 20 ∨ t.kind = 14 ∨ t.kind = 21) : clauseM m t = none := by
 have hs : starT t = false := by simp [starT]; omega
 unfold clauseM unaryM bodyM
 rw [if_neg (by omega), if_neg (by omega), if_neg (by omega), if_neg (by simp [hs]), if_neg (by omega), if_neg (by omega), if_neg (by omega), if_neg (by omega), if_neg (by omega)]
theorem row_behind {m : Mc} (t : Lt) (h20 : t.kind ≠ 20) (h4 : ¬ (m.state = 4 ∧ t.kind = 14)) (h6 : ¬ (m.state = 6 ∧ t.kind = 14)) (h8 : ¬ (m.state = 8 ∧ t.kind = 21)) : rBehind m.row t = (afterM m t).map Mc.row := by
 unfold rBehind afterM
 rw [if_neg h4, if_neg h6, if_neg h20, if_neg h8]
 by_cases h : t.kind = 18 ∨ t.kind = 19
 ·rw [if_pos h, if_pos h]; rfl
 rw [if_neg h, if_neg h]
 by_cases h : t.kind = 4 ∨ t.kind = 5 ∨ t.kind = 17
 ·rw [if_pos h, if_pos h]
  show (if m.at_.signed = true then none else _) = _
  by_cases hg : m.at_.signed = true
  ·rw [if_pos hg, if_pos hg]; rfl
  ·rw [if_neg hg, if_neg hg]; rfl
 rw [if_neg h, if_neg h]
 by_cases h9 : t.kind = 9
 ·have h0 : ¬ t.kind = 0 := by omega
  rw [if_pos h9, if_neg h0, if_pos h9]
  unfold shutM
  show (match (m.below.map (fun l : Lev => l.signed)).getLast? with | none => none | some b => some (Rw.mk 8 b (m.below.map (fun l : Lev => l.signed)).dropLast)) = _
  rw [List.getLast?_map, ← List.map_dropLast]
  cases m.below.getLast? <;> rfl
 rw [if_neg h9]
 by_cases h0 : t.kind = 0
 ·rw [if_pos h0, if_pos h0]
  show (if m.below.map (fun l : Lev => l.signed) = [] then some (m.row.to 14) else none) = _
  by_cases hb : m.below = []
  ·rw [if_pos hb, if_pos (by rw [hb]; rfl)]; rfl
  ·rw [if_neg hb, if_neg (by simpa using hb)]; rfl
 rw [if_neg h0, if_neg h0, if_neg h9]
 have := row_clause (m := m.close.to 0) t
 rw [← this]
 unfold rClause rBegun
 rfl
theorem behind_none {r : Rw} {t : Lt} (h : t.kind = 20 ∨ t.kind = 14 ∨ t.kind = 21) : rBehind r t = none := by
 have hs : starT t = false := by simp [starT]; omega
 unfold rBehind
 rw [if_neg (by omega), if_neg (by omega), if_neg (by omega), if_neg (by omega)]
 unfold rClause rBegun rAtom
 rw [if_neg (by omega), if_neg (by omega), if_neg (by omega), if_neg (by omega), if_neg (by omega), if_neg (by omega), if_neg (by omega)]
theorem row_step {m : Mc} (t : Lt) (hm : m.state ≤ 14) : rStep m.row t = (stepM m t).map Mc.row := by
 have e : m.row.at_ = m.state := rfl
 unfold rStep stepM
 rw [e]
 by_cases h14 : m.state = 14
 ·rw [if_pos h14, if_neg (by omega), if_neg (by omega), if_neg (by omega), if_neg (by omega), if_neg (by omega), if_neg (by omega), if_neg (by omega), if_neg (by omega), if_pos h14]; rfl
 rw [if_neg h14]
 by_cases h0 : m.state = 0
 ·rw [if_pos h0, if_pos h0, row_clause]
 rw [if_neg h0, if_neg h0]
 by_cases h1 : m.state = 1
 ·rw [if_pos h1, if_pos h1, row_unary]
 rw [if_neg h1, if_neg h1]
 by_cases h2 : m.state = 2
 ·rw [if_pos h2, if_pos h2, row_body]
 rw [if_neg h2, if_neg h2]
 by_cases h3 : m.state = 3
 ·rw [if_pos h3, if_pos h3]
  split <;> rfl
 rw [if_neg h3, if_neg h3]
 by_cases h10 : m.state = 10
 ·rw [if_pos (by omega), if_pos h10]
  unfold rSpan sideM
  rw [e, if_pos (.inl h10), h10]
  split <;> rfl
 rw [if_neg h10]
 by_cases h11 : m.state = 11
 ·rw [if_pos (by omega), if_pos h11]
  unfold rSpan
  rw [e, if_neg (by omega), if_pos h11]
  split <;> rfl
 rw [if_neg h11]
 by_cases h12 : m.state = 12
 ·rw [if_pos (by omega), if_pos h12]
  unfold rSpan sideM
  rw [e, if_pos (.inr h12), h12]
  split <;> rfl
 rw [if_neg h12]
 by_cases h13 : m.state = 13
 ·rw [if_pos (by omega), if_pos h13]
  unfold rSpan
  rw [e, if_neg (by omega), if_neg (by omega)]
  split <;> rfl
 rw [if_neg h13, if_neg h14, if_neg (by omega)]
 by_cases h20 : t.kind = 20
 ·rw [behind_none (.inl h20)]
  unfold afterM editsT slopT
  rw [if_neg (by omega : ¬ t.kind = 14), if_neg (by omega : ¬ t.kind = 14), if_neg (by omega : ¬ (m.state = 4 ∧ t.kind = 14)), if_neg (by omega : ¬ (m.state = 6 ∧ t.kind = 14)), if_pos h20, if_neg (by omega : ¬ t.kind = 21)]
  simp only [h20, decide_true, Bool.true_and, Bool.or_eq_true, decide_eq_true_eq, or_assoc]
  by_cases h4 : m.state = 4
  ·have h7 : ¬ m.state = 7 := by omega
   simp only [h4, if_true, true_or, true_and, Nat.reduceEqDiff, false_and, or_false, reduceIte]
   split <;> rfl
  rw [if_neg h4]
  by_cases h6 : m.state = 6
  ·simp only [h6, Nat.reduceEqDiff, false_and, or_false, reduceIte]; rfl
  rw [if_neg h6]
  by_cases h5 : m.state = 5
  ·simp only [h5, if_true, or_true, true_and, Nat.reduceEqDiff, false_and, or_false, reduceIte]
   split <;> rfl
  rw [if_neg h5]
  by_cases h7 : m.state = 7
  ·simp only [h7, true_and, Nat.reduceEqDiff, false_or, false_and, or_false, reduceIte]
   split <;> rfl
  rw [if_neg h7]
  simp only [h4, h5, h7, false_or, false_and, or_false, ite_self, if_false]; rfl
 have he : editsT t = false := by simp [editsT, h20]
 have hsl : slopT t = false := by simp [slopT, h20]
 rw [he, hsl]
 simp only [Bool.false_eq_true, if_false]
 by_cases h14k : t.kind = 14
 ·rw [behind_none (.inr (.inl h14k))]
  unfold afterM
  rw [if_neg h20, if_neg (by omega : ¬ (m.state = 8 ∧ t.kind = 21)), if_neg (by omega : ¬ (t.kind = 18 ∨ t.kind = 19)), if_neg (by omega : ¬ (t.kind = 4 ∨ t.kind = 5 ∨ t.kind = 17)), if_neg (by omega : ¬ t.kind = 0), if_neg (by omega : ¬ t.kind = 9), clause_none (.inr (.inl h14k))]
  simp only [h14k, and_true, if_true]
  by_cases h4 : m.state = 4
  ·simp only [h4, if_true, reduceIte]; rfl
  by_cases h6 : m.state = 6
  ·simp only [h4, h6, if_true, if_false, reduceIte, Nat.reduceEqDiff]; rfl
  simp [h4, h6, h14k]
 by_cases h21 : t.kind = 21
 ·rw [behind_none (.inr (.inr h21))]
  unfold afterM
  rw [if_neg (by omega : ¬ (m.state = 4 ∧ t.kind = 14)), if_neg (by omega : ¬ (m.state = 6 ∧ t.kind = 14)), if_neg h20, if_neg (by omega : ¬ (t.kind = 18 ∨ t.kind = 19)), if_neg (by omega : ¬ (t.kind = 4 ∨ t.kind = 5 ∨ t.kind = 17)), if_neg (by omega : ¬ t.kind = 0), if_neg (by omega : ¬ t.kind = 9), clause_none (.inr (.inr h21))]
  by_cases h8 : m.state = 8
  ·simp [h8, h21, Mc.to, Rw.to, Mc.row]
  ·simp [h8, h21]
 rw [if_neg h14k, if_neg h14k, if_neg h21]
 simp only [ite_self]
 exact row_behind t h20 (by omega) (by omega) (by omega)
end Go.Proofs.YtcomdkejpaoneaaDoor
end
section
namespace Go.Proofs.YtcomdkejpaoneaaDoor
set_option linter.unusedSimpArgs false
set_option linter.unusedVariables false
theorem rAtom_8 {t : Lt} (h : t.kind = 8) (f : Bool) : rAtom t f = some 0 := by unfold rAtom; simp [h]
theorem rBegun_8 {t : Lt} (h : t.kind = 8) (r : Rw) (f : Bool) : rBegun r t f = some ⟨0, false, r.open_ ++ [r.signed]⟩ := by
 unfold rBegun; rw [if_neg (by omega), rAtom_8 h]; simp [h]
theorem rClause_8 {t : Lt} (h : t.kind = 8) (r : Rw) : rClause r t = some ⟨0, false, r.open_ ++ [false]⟩ := by
 unfold rClause; rw [if_neg (by omega), rBegun_8 h]
theorem rBehind_8 {t : Lt} (h : t.kind = 8) (r : Rw) : rBehind r t = some ⟨0, false, r.open_ ++ [false]⟩ := by
 unfold rBehind; rw [if_neg (by omega), if_neg (by omega), if_neg (by omega), if_neg (by omega), rClause_8 h]
def op8 (r : Rw) : Option Bool :=
 if r.at_ = 14 then none else if r.at_ = 0 then some false else if r.at_ = 1 ∨ r.at_ = 2 then some r.signed
 else if r.at_ = 3 ∨ (10 ≤ r.at_ ∧ r.at_ ≤ 13) then none else some false
theorem rStep_8 {t : Lt} (h : t.kind = 8) (r : Rw) : rStep r t = (op8 r).map fun b => ⟨0, false, r.open_ ++ [b]⟩ := by
 have hs : starT t = false := by simp [starT, h]
 have hd : sideT t = false := by simp [sideT, starT, h]
 have he : editsT t = false := by simp [editsT, h]
 have hp : slopT t = false := by simp [slopT, h]
 unfold rStep op8
 by_cases h14 : r.at_ = 14
 ·rw [if_pos h14, if_pos h14]; rfl
 rw [if_neg h14, if_neg h14]
 by_cases h0 : r.at_ = 0
 ·rw [if_pos h0, if_pos h0, rClause_8 h]; rfl
 rw [if_neg h0, if_neg h0]
 by_cases h1 : r.at_ = 1
 ·rw [if_pos h1, if_pos (.inl h1), rBegun_8 h]; rfl
 rw [if_neg h1]
 by_cases h2 : r.at_ = 2
 ·rw [if_pos h2, if_pos (.inr h2), rBegun_8 h]; rfl
 rw [if_neg h2, if_neg (show ¬ (r.at_ = 1 ∨ r.at_ = 2) by omega)]
 by_cases h3 : r.at_ = 3
 ·rw [if_pos h3, if_pos (show r.at_ = 3 ∨ (10 ≤ r.at_ ∧ r.at_ ≤ 13) from .inl h3), if_neg (by simp [hs])]; rfl
 rw [if_neg h3]
 by_cases h10 : 10 ≤ r.at_ ∧ r.at_ ≤ 13
 ·rw [if_pos h10, if_pos (show r.at_ = 3 ∨ (10 ≤ r.at_ ∧ r.at_ ≤ 13) from .inr h10)]
  unfold rSpan
  split
  ·rw [if_neg (by simp [hd])]; rfl
  ·split
   ·rw [if_neg (by omega)]; rfl
   ·rw [if_neg (by omega)]; rfl
 rw [if_neg h10, if_neg (show ¬ (r.at_ = 3 ∨ (10 ≤ r.at_ ∧ r.at_ ≤ 13)) by omega), rBehind_8 h, if_neg (by omega : ¬ t.kind = 14), if_neg (by omega : ¬ t.kind = 14), if_neg (by omega : ¬ t.kind = 21), he, hp]
 simp
theorem rBegun_9 {t : Lt} (h : t.kind = 9) (r : Rw) (f : Bool) : rBegun r t f = none := by
 unfold rBegun rAtom; simp [h]
theorem rClause_9 {t : Lt} (h : t.kind = 9) (r : Rw) : rClause r t = none := by
 unfold rClause; rw [if_neg (by omega), rBegun_9 h]
theorem rBehind_9 {t : Lt} (h : t.kind = 9) (r : Rw) : rBehind r t = match r.open_.getLast? with
  | none => none
  | some b => some ⟨8, b, r.open_.dropLast⟩ := by
 unfold rBehind; rw [if_neg (by omega), if_neg (by omega), if_pos h] <;> rfl
def beh9 (r : Rw) : Bool := decide (4 ≤ r.at_ ∧ r.at_ ≤ 9) || decide (15 ≤ r.at_)
theorem rStep_9 {t : Lt} (h : t.kind = 9) (r : Rw) : rStep r t = if beh9 r = true then (match r.open_.getLast? with
  | none => none
  | some b => some ⟨8, b, r.open_.dropLast⟩) else none := by
 have hs : starT t = false := by simp [starT, h]
 have hd : sideT t = false := by simp [sideT, starT, h]
 have he : editsT t = false := by simp [editsT, h]
 have hp : slopT t = false := by simp [slopT, h]
 have hb : beh9 r = true ↔ (4 ≤ r.at_ ∧ r.at_ ≤ 9) ∨ 15 ≤ r.at_ := by simp [beh9]
 unfold rStep
 by_cases h14 : r.at_ = 14
 ·rw [if_pos h14, if_neg (by rw [hb]; omega)]
 rw [if_neg h14]
 by_cases h0 : r.at_ = 0
 ·rw [if_pos h0, rClause_9 h, if_neg (by rw [hb]; omega)]
 rw [if_neg h0]
 by_cases h1 : r.at_ = 1
 ·rw [if_pos h1, rBegun_9 h, if_neg (by rw [hb]; omega)]
 rw [if_neg h1]
 by_cases h2 : r.at_ = 2
 ·rw [if_pos h2, rBegun_9 h, if_neg (by rw [hb]; omega)]
 rw [if_neg h2]
 by_cases h3 : r.at_ = 3
 ·rw [if_pos h3, if_neg (by simp [hs]), if_neg (by rw [hb]; omega)]
 rw [if_neg h3]
 by_cases h10 : 10 ≤ r.at_ ∧ r.at_ ≤ 13
 ·rw [if_pos h10, if_neg (by rw [hb]; omega)]
  unfold rSpan
  split
  ·rw [if_neg (by simp [hd])]
  ·split
   ·rw [if_neg (by omega)]
   ·rw [if_neg (by omega)]
 rw [if_neg h10, rBehind_9 h, if_neg (by omega : ¬ t.kind = 14), if_neg (by omega : ¬ t.kind = 14), if_neg (by omega : ¬ t.kind = 21), he, hp, if_pos (hb.2 (by omega))]
 simp
theorem runI_inv {m m' : Mc} {pre l : List Lt} {i : Nat} (hi : Inv m pre) (h : runI m i l = .inl m') : runM m l = some m' := by
 induction l generalizing m pre i with
 | nil => rw [runI] at h; injection h with h; rw [h]; rfl
 | cons t l ih =>
  rw [runI] at h
  rw [runM]
  cases hs : stepM m t with
  | none => rw [hs] at h; cases h
  | some m2 => rw [hs] at h; exact ih (inv_step hi hs) h
end Go.Proofs.YtcomdkejpaoneaaDoor
end
section
namespace Go.Proofs.YtcomdkejpaoneaaDoor
set_option linter.unusedSimpArgs false
set_option linter.unusedVariables false
theorem scanF_end {f : Nat} {l : List UInt8} {i : Nat} {la : List Lx} (h : scanF f l i = (la, none)) : ∃ l0 e, la = l0 ++ [e] ∧ e.kind = 0 := by
 induction f generalizing l i la with
 | zero => simp [scanF] at h
 | succ f ih =>
  cases l with
  | nil =>
   simp only [scanF, Prod.mk.injEq] at h
   exact ⟨[], _, h.1.symm, rfl⟩
  | cons c t =>
   rw [scanF] at h
   split at h
   ·exact ih h
   ·split at h
    ·cases h
    ·rename_i k ht
     rcases hr : scanF f ((c :: t).drop k.len) (i + k.len) with ⟨u, _ | z⟩
     ·rw [hr] at h
      simp only [ahead, List.singleton_append, Prod.mk.injEq, and_true] at h
      obtain ⟨l0, e, h2, h3⟩ := ih hr
      exact ⟨_ :: l0, e, by rw [← h, h2]; rfl, h3⟩
     ·rw [hr] at h
      simp [ahead] at h
theorem stepM_end {m m' : Mc} {t : Lt} (h : stepM m t = some m') (ht : t.kind = 0) (hs : m.state ≤ 14) : m'.state = 14 := by
 have h2 := row_step t hs
 rw [h] at h2
 have hst : starT t = false := by simp [starT, ht]
 have hsd : sideT t = false := by simp [sideT, starT, ht]
 have he : editsT t = false := by simp [editsT, ht]
 have hp : slopT t = false := by simp [slopT, ht]
 have hbg : ∀ (r : Rw) f, rBegun r t f = none := fun r f => by unfold rBegun rAtom; simp [ht]
 have hc : ∀ r : Rw, rClause r t = none := fun r => by unfold rClause; rw [if_neg (by omega), hbg]
 have hspan : ∀ r : Rw, rSpan r t = none := fun r => by
  unfold rSpan
  rw [hsd]
  simp only [Bool.false_eq_true, if_false]
  split
  ·rfl
  split
  ·rw [if_neg (by omega)]
  ·rw [if_neg (by omega)]
 have hbh : ∀ r r' : Rw, rBehind r t = some r' → r'.at_ = 14 := fun r r' h => by
  unfold rBehind at h
  rw [if_neg (by omega), if_neg (by omega), if_neg (by omega), if_pos ht] at h
  split at h
  ·injection h with h; rw [← h]; rfl
  ·cases h
 show m'.row.at_ = 14
 have h3 : rStep m.row t = some m'.row := h2
 unfold rStep at h3
 by_cases h14 : m.row.at_ = 14
 ·rw [if_pos h14] at h3; cases h3
 rw [if_neg h14] at h3
 by_cases h0 : m.row.at_ = 0
 ·rw [if_pos h0, hc] at h3; cases h3
 rw [if_neg h0] at h3
 by_cases h1 : m.row.at_ = 1
 ·rw [if_pos h1, hbg] at h3; cases h3
 rw [if_neg h1] at h3
 by_cases h2' : m.row.at_ = 2
 ·rw [if_pos h2', hbg] at h3; cases h3
 rw [if_neg h2'] at h3
 by_cases h3' : m.row.at_ = 3
 ·rw [if_pos h3', if_neg (by rw [hst]; decide)] at h3; cases h3
 rw [if_neg h3'] at h3
 by_cases h10 : 10 ≤ m.row.at_ ∧ m.row.at_ ≤ 13
 ·rw [if_pos h10, hspan] at h3; cases h3
 rw [if_neg h10] at h3
 by_cases h4 : m.row.at_ = 4
 ·rw [if_pos h4, if_neg (by omega), if_neg (by rw [he]; decide)] at h3; exact hbh _ _ h3
 rw [if_neg h4] at h3
 by_cases h6 : m.row.at_ = 6
 ·rw [if_pos h6, if_neg (by omega)] at h3; exact hbh _ _ h3
 rw [if_neg h6] at h3
 by_cases h5 : m.row.at_ = 5
 ·rw [if_pos h5, if_neg (by rw [he]; decide)] at h3; exact hbh _ _ h3
 rw [if_neg h5] at h3
 by_cases h7 : m.row.at_ = 7
 ·rw [if_pos h7, if_neg (by rw [hp]; decide)] at h3; exact hbh _ _ h3
 rw [if_neg h7] at h3
 by_cases h8 : m.row.at_ = 8
 ·rw [if_pos h8, if_neg (by omega)] at h3; exact hbh _ _ h3
 rw [if_neg h8] at h3
 exact hbh _ _ h3
theorem runI_last {m m' : Mc} {pre l : List Lt} {e : Lt} {i : Nat} (hi : Inv m pre) (he : e.kind = 0) (h : runI m i (l ++ [e]) = .inl m') : m'.state = 14 := by
 induction l generalizing m pre i with
 | nil =>
  rw [List.nil_append, runI] at h
  cases hs : stepM m e with
  | none => rw [hs] at h; cases h
  | some m2 =>
   rw [hs] at h
   simp only [runI] at h
   injection h with h
   rw [← h]
   exact stepM_end hs he hi.st
 | cons t l ih =>
  rw [List.cons_append, runI] at h
  cases hs : stepM m t with
  | none => rw [hs] at h; cases h
  | some m2 => rw [hs] at h; exact ih (inv_step hi hs) h
theorem runI_lt {m : Mc} {l : List Lt} {i j : Nat} (h : runI m i l = .inr j) : j < i + l.length := by
 induction l generalizing m i with
 | nil => rw [runI] at h; cases h
 | cons t l ih =>
  rw [runI] at h
  rw [List.length_cons]
  cases hs : stepM m t with
  | none => rw [hs] at h; injection h with h; omega
  | some m2 => rw [hs] at h; have := ih h; omega
end Go.Proofs.YtcomdkejpaoneaaDoor
end
