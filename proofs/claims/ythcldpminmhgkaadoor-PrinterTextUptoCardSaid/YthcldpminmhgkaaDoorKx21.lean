/- Merged for a claim by shake.py: Rw Qk Tq Um Uo -/
import Derived.Test.YthcldpminmhgkaaDoorKxA
import Derived.Defers
import Derived.Recover
import Derived.Test.YthcldpminmhgkaaDoorKx12
import Derived.Test.YthcldpminmhgkaaDoorKx20
import Derived.Test.YthcldpminmhgkaaDoorKx8
set_option linter.unusedSimpArgs false
set_option linter.unusedVariables false
set_option maxRecDepth 100000
set_option maxHeartbeats 4000000
section
namespace Go.Proofs.YthcldpminmhgkaaDoor
structure Rw where
 at_ : Nat
 signed : Bool
 open_ : List Bool
def Rw.to (r : Rw) (s : Nat) : Rw := ⟨s, r.signed, r.open_⟩
def rAtom (t : Lt) (field : Bool) : Option Nat :=
 if t.kind = 1 then some (if field = true then 5 else 4)
 else if t.kind = 2 then some (if starT t = true ∧ field = false then 6 else 9)
 else if t.kind = 3 then some 7
 else if t.kind = 8 then some 0
 else if t.kind = 10 ∨ t.kind = 12 then some 10
 else none
def rBegun (r : Rw) (t : Lt) (field : Bool) : Option Rw :=
 if t.kind = 6 ∧ field = false then some (r.to 1)
 else match rAtom t field with
  | none => none
  | some a => if t.kind = 8 then some ⟨a, false, r.open_ ++ [r.signed]⟩ else some (r.to a)
def rClause (r : Rw) (t : Lt) : Option Rw :=
 if t.kind = 15 ∨ t.kind = 16 then some ⟨1, true, r.open_⟩ else rBegun ⟨r.at_, false, r.open_⟩ t false
def rBehind (r : Rw) (t : Lt) : Option Rw :=
 if t.kind = 18 ∨ t.kind = 19 then some (r.to 9)
 else if t.kind = 4 ∨ t.kind = 5 ∨ t.kind = 17 then if r.signed = true then none else some (r.to 1)
 else if t.kind = 9 then match r.open_.getLast? with
  | none => none
  | some b => some ⟨8, b, r.open_.dropLast⟩
 else if t.kind = 0 then if r.open_ = [] then some (r.to 14) else none
 else rClause r t
def rSpan (r : Rw) (t : Lt) : Option Rw :=
 if r.at_ = 10 ∨ r.at_ = 12 then (if sideT t = true then some (r.to (r.at_ + 1)) else none)
 else if r.at_ = 11 then (if t.kind = 7 then some (r.to 12) else none)
 else (if t.kind = 11 ∨ t.kind = 13 then some (r.to 9) else none)
def editsT (t : Lt) : Bool := decide (t.kind = 20) && (decide (t.n = -1) || decide (t.n = 1) || decide (t.n = 2))
def slopT (t : Lt) : Bool := decide (t.kind = 20) && decide (0 ≤ t.n)
def rStep (r : Rw) (t : Lt) : Option Rw :=
 if r.at_ = 14 then none
 else if r.at_ = 0 then rClause r t
 else if r.at_ = 1 then rBegun r t false
 else if r.at_ = 2 then rBegun r t true
 else if r.at_ = 3 then (if starT t = true then some (r.to 9) else none)
 else if 10 ≤ r.at_ ∧ r.at_ ≤ 13 then rSpan r t
 else if r.at_ = 4 then (if t.kind = 14 then some (r.to 2) else if editsT t = true then some (r.to 9) else rBehind r t)
 else if r.at_ = 6 then (if t.kind = 14 then some (r.to 3) else rBehind r t)
 else if r.at_ = 5 then (if editsT t = true then some (r.to 9) else rBehind r t)
 else if r.at_ = 7 then (if slopT t = true then some (r.to 9) else rBehind r t)
 else if r.at_ = 8 then (if t.kind = 21 then some (r.to 9) else rBehind r t)
 else rBehind r t
def Mc.row (m : Mc) : Rw := ⟨m.state, m.at_.signed, m.below.map (·.signed)⟩
theorem row_body {m : Mc} (t : Lt) : rBegun m.row t true = (bodyM m t).map Mc.row := by
 unfold rBegun bodyM rAtom
 by_cases h1 : t.kind = 1
 ·simp [h1, Mc.to, Rw.to, Mc.row]
 by_cases h2 : t.kind = 2
 ·simp [h2, Mc.to, Rw.to, Mc.row]
 by_cases h3 : t.kind = 3
 ·simp [h3, Mc.to, Rw.to, Mc.row]
 by_cases h10 : t.kind = 10 ∨ t.kind = 12
 ·have h8 : ¬ t.kind = 8 := by omega
  simp [h1, h2, h3, h8, h10, Mc.to, Rw.to, Mc.row]
 by_cases h8 : t.kind = 8
 ·simp [h8, Mc.to, Rw.to, Mc.row, lev0]
 ·simp [h1, h2, h3, h8, h10]
theorem row_unary {m : Mc} (t : Lt) : rBegun m.row t false = (unaryM m t).map Mc.row := by
 unfold unaryM
 by_cases h6 : t.kind = 6
 ·unfold rBegun
  simp [h6, Mc.to, Rw.to, Mc.row]
 rw [if_neg h6]
 by_cases h1 : t.kind = 1
 ·unfold rBegun rAtom
  simp [h1, Mc.to, Rw.to, Mc.row]
 rw [if_neg h1]
 by_cases hs : starT t = true
 ·have h2 : t.kind = 2 := by simp [starT] at hs; exact hs.1
  unfold rBegun rAtom
  simp [h2, hs, Mc.to, Rw.to, Mc.row]
 rw [if_neg hs, ← row_body]
 unfold rBegun rAtom
 simp [h6, h1, hs]
theorem row_clause {m : Mc} (t : Lt) : rClause m.row t = (clauseM m t).map Mc.row := by
 unfold rClause clauseM
 by_cases h : t.kind = 15 ∨ t.kind = 16
 ·rw [if_pos h, if_pos h]; rfl
 ·rw [if_neg h, if_neg h, ← row_unary]; rfl
theorem clause_none {m : Mc} {t : Lt} (h : t.kind = 20 ∨ t.kind = 14 ∨ t.kind = 21) : clauseM m t = none := by
 have hs : starT t = false := by simp [starT]; omega
 unfold clauseM unaryM bodyM
 rw [if_neg (by omega), if_neg (by omega), if_neg (by omega), if_neg (by simp [hs]), if_neg (by omega), if_neg (by omega), if_neg (by omega), if_neg (by omega), if_neg (by omega)]
theorem row_behind {m : Mc} (t : Lt) (h20 : t.kind ≠ 20) (h4 : ¬ (m.state = 4 ∧ t.kind = 14)) (h6 : ¬ (m.state = 6 ∧ t.kind = 14)) (h8 : ¬ (m.state = 8 ∧ t.kind = 21)) : rBehind m.row t = (afterM m t).map Mc.row := by
 unfold rBehind afterM
 rw [if_neg h4, if_neg h6, if_neg h20, if_neg h8]
 by_cases h : t.kind = 18 ∨ t.kind = 19
 ·rw [if_pos h, if_pos h]; rfl
 rw [if_neg h, if_neg h]
 by_cases h : t.kind = 4 ∨ t.kind = 5 ∨ t.kind = 17
 ·rw [if_pos h, if_pos h]
  show (if m.at_.signed = true then none else _) = _
  by_cases hg : m.at_.signed = true
  ·rw [if_pos hg, if_pos hg]; rfl
  ·rw [if_neg hg, if_neg hg]; rfl
 rw [if_neg h, if_neg h]
 by_cases h9 : t.kind = 9
 ·have h0 : ¬ t.kind = 0 := by omega
  rw [if_pos h9, if_neg h0, if_pos h9]
  unfold shutM
  show (match (m.below.map (fun l : Lev => l.signed)).getLast? with | none => none | some b => some (Rw.mk 8 b (m.below.map (fun l : Lev => l.signed)).dropLast)) = _
  rw [List.getLast?_map, ← List.map_dropLast]
  cases m.below.getLast? <;> rfl
 rw [if_neg h9]
 by_cases h0 : t.kind = 0
 ·rw [if_pos h0, if_pos h0]
  show (if m.below.map (fun l : Lev => l.signed) = [] then some (m.row.to 14) else none) = _
  by_cases hb : m.below = []
  ·rw [if_pos hb, if_pos (by rw [hb]; rfl)]; rfl
  ·rw [if_neg hb, if_neg (by simpa using hb)]; rfl
 rw [if_neg h0, if_neg h0, if_neg h9]
 have := row_clause (m := m.close.to 0) t
 rw [← this]
 unfold rClause rBegun
 rfl
theorem behind_none {r : Rw} {t : Lt} (h : t.kind = 20 ∨ t.kind = 14 ∨ t.kind = 21) : rBehind r t = none := by
 have hs : starT t = false := by simp [starT]; omega
 unfold rBehind
 rw [if_neg (by omega), if_neg (by omega), if_neg (by omega), if_neg (by omega)]
 unfold rClause rBegun rAtom
 rw [if_neg (by omega), if_neg (by omega), if_neg (by omega), if_neg (by omega), if_neg (by omega), if_neg (by omega), if_neg (by omega)]
theorem row_step {m : Mc} (t : Lt) (hm : m.state ≤ 14) : rStep m.row t = (stepM m t).map Mc.row := by
 have e : m.row.at_ = m.state := rfl
 unfold rStep stepM
 rw [e]
 by_cases h14 : m.state = 14
 ·rw [if_pos h14, if_neg (by omega), if_neg (by omega), if_neg (by omega), if_neg (by omega), if_neg (by omega), if_neg (by omega), if_neg (by omega), if_neg (by omega), if_pos h14]; rfl
 rw [if_neg h14]
 by_cases h0 : m.state = 0
 ·rw [if_pos h0, if_pos h0, row_clause]
 rw [if_neg h0, if_neg h0]
 by_cases h1 : m.state = 1
 ·rw [if_pos h1, if_pos h1, row_unary]
 rw [if_neg h1, if_neg h1]
 by_cases h2 : m.state = 2
 ·rw [if_pos h2, if_pos h2, row_body]
 rw [if_neg h2, if_neg h2]
 by_cases h3 : m.state = 3
 ·rw [if_pos h3, if_pos h3]
  split <;> rfl
 rw [if_neg h3, if_neg h3]
 by_cases h10 : m.state = 10
 ·rw [if_pos (by omega), if_pos h10]
  unfold rSpan sideM
  rw [e, if_pos (.inl h10), h10]
  split <;> rfl
 rw [if_neg h10]
 by_cases h11 : m.state = 11
 ·rw [if_pos (by omega), if_pos h11]
  unfold rSpan
  rw [e, if_neg (by omega), if_pos h11]
  split <;> rfl
 rw [if_neg h11]
 by_cases h12 : m.state = 12
 ·rw [if_pos (by omega), if_pos h12]
  unfold rSpan sideM
  rw [e, if_pos (.inr h12), h12]
  split <;> rfl
 rw [if_neg h12]
 by_cases h13 : m.state = 13
 ·rw [if_pos (by omega), if_pos h13]
  unfold rSpan
  rw [e, if_neg (by omega), if_neg (by omega)]
  split <;> rfl
 rw [if_neg h13, if_neg h14, if_neg (by omega)]
 by_cases h20 : t.kind = 20
 ·rw [behind_none (.inl h20)]
  unfold afterM editsT slopT
  rw [if_neg (by omega : ¬ t.kind = 14), if_neg (by omega : ¬ t.kind = 14), if_neg (by omega : ¬ (m.state = 4 ∧ t.kind = 14)), if_neg (by omega : ¬ (m.state = 6 ∧ t.kind = 14)), if_pos h20, if_neg (by omega : ¬ t.kind = 21)]
  simp only [h20, decide_true, Bool.true_and, Bool.or_eq_true, decide_eq_true_eq, or_assoc]
  by_cases h4 : m.state = 4
  ·have h7 : ¬ m.state = 7 := by omega
   simp only [h4, if_true, true_or, true_and, Nat.reduceEqDiff, false_and, or_false, reduceIte]
   split <;> rfl
  rw [if_neg h4]
  by_cases h6 : m.state = 6
  ·simp only [h6, Nat.reduceEqDiff, false_and, or_false, reduceIte]; rfl
  rw [if_neg h6]
  by_cases h5 : m.state = 5
  ·simp only [h5, if_true, or_true, true_and, Nat.reduceEqDiff, false_and, or_false, reduceIte]
   split <;> rfl
  rw [if_neg h5]
  by_cases h7 : m.state = 7
  ·simp only [h7, true_and, Nat.reduceEqDiff, false_or, false_and, or_false, reduceIte]
   split <;> rfl
  rw [if_neg h7]
  simp only [h4, h5, h7, false_or, false_and, or_false, ite_self, if_false]; rfl
 have he : editsT t = false := by simp [editsT, h20]
 have hsl : slopT t = false := by simp [slopT, h20]
 rw [he, hsl]
 simp only [Bool.false_eq_true, if_false]
 by_cases h14k : t.kind = 14
 ·rw [behind_none (.inr (.inl h14k))]
  unfold afterM
  rw [if_neg h20, if_neg (by omega : ¬ (m.state = 8 ∧ t.kind = 21)), if_neg (by omega : ¬ (t.kind = 18 ∨ t.kind = 19)), if_neg (by omega : ¬ (t.kind = 4 ∨ t.kind = 5 ∨ t.kind = 17)), if_neg (by omega : ¬ t.kind = 0), if_neg (by omega : ¬ t.kind = 9), clause_none (.inr (.inl h14k))]
  simp only [h14k, and_true, if_true]
  by_cases h4 : m.state = 4
  ·simp only [h4, if_true, reduceIte]; rfl
  by_cases h6 : m.state = 6
  ·simp only [h4, h6, if_true, if_false, reduceIte, Nat.reduceEqDiff]; rfl
  simp [h4, h6, h14k]
 by_cases h21 : t.kind = 21
 ·rw [behind_none (.inr (.inr h21))]
  unfold afterM
  rw [if_neg (by omega : ¬ (m.state = 4 ∧ t.kind = 14)), if_neg (by omega : ¬ (m.state = 6 ∧ t.kind = 14)), if_neg h20, if_neg (by omega : ¬ (t.kind = 18 ∨ t.kind = 19)), if_neg (by omega : ¬ (t.kind = 4 ∨ t.kind = 5 ∨ t.kind = 17)), if_neg (by omega : ¬ t.kind = 0), if_neg (by omega : ¬ t.kind = 9), clause_none (.inr (.inr h21))]
  by_cases h8 : m.state = 8
  ·simp [h8, h21, Mc.to, Rw.to, Mc.row]
  ·simp [h8, h21]
 rw [if_neg h14k, if_neg h14k, if_neg h21]
 simp only [ite_self]
 exact row_behind t h20 (by omega) (by omega) (by omega)
theorem runI_inv {m m' : Mc} {pre l : List Lt} {i : Nat} (hi : Inv m pre) (h : runI m i l = .inl m') : runM m l = some m' := by
 induction l generalizing m pre i with
 | nil => rw [runI] at h; injection h with h; rw [h]; rfl
 | cons t l ih =>
  rw [runI] at h
  rw [runM]
  cases hs : stepM m t with
  | none => rw [hs] at h; cases h
  | some m2 => rw [hs] at h; exact ih (inv_step hi hs) h
theorem scanF_end {f : Nat} {l : List UInt8} {i : Nat} {la : List Lx} (h : scanF f l i = (la, none)) : ∃ l0 e, la = l0 ++ [e] ∧ e.kind = 0 := by
 induction f generalizing l i la with
 | zero => simp [scanF] at h
 | succ f ih =>
  cases l with
  | nil =>
   simp only [scanF, Prod.mk.injEq] at h
   exact ⟨[], _, h.1.symm, rfl⟩
  | cons c t =>
   rw [scanF] at h
   split at h
   ·exact ih h
   ·split at h
    ·cases h
    ·rename_i k ht
     rcases hr : scanF f ((c :: t).drop k.len) (i + k.len) with ⟨u, _ | z⟩
     ·rw [hr] at h
      simp only [ahead, List.singleton_append, Prod.mk.injEq, and_true] at h
      obtain ⟨l0, e, h2, h3⟩ := ih hr
      exact ⟨_ :: l0, e, by rw [← h, h2]; rfl, h3⟩
     ·rw [hr] at h
      simp [ahead] at h
theorem stepM_end {m m' : Mc} {t : Lt} (h : stepM m t = some m') (ht : t.kind = 0) (hs : m.state ≤ 14) : m'.state = 14 := by
 have h2 := row_step t hs
 rw [h] at h2
 have hst : starT t = false := by simp [starT, ht]
 have hsd : sideT t = false := by simp [sideT, starT, ht]
 have he : editsT t = false := by simp [editsT, ht]
 have hp : slopT t = false := by simp [slopT, ht]
 have hbg : ∀ (r : Rw) f, rBegun r t f = none := fun r f => by unfold rBegun rAtom; simp [ht]
 have hc : ∀ r : Rw, rClause r t = none := fun r => by unfold rClause; rw [if_neg (by omega), hbg]
 have hspan : ∀ r : Rw, rSpan r t = none := fun r => by
  unfold rSpan
  rw [hsd]
  simp only [Bool.false_eq_true, if_false]
  split
  ·rfl
  split
  ·rw [if_neg (by omega)]
  ·rw [if_neg (by omega)]
 have hbh : ∀ r r' : Rw, rBehind r t = some r' → r'.at_ = 14 := fun r r' h => by
  unfold rBehind at h
  rw [if_neg (by omega), if_neg (by omega), if_neg (by omega), if_pos ht] at h
  split at h
  ·injection h with h; rw [← h]; rfl
  ·cases h
 show m'.row.at_ = 14
 have h3 : rStep m.row t = some m'.row := h2
 unfold rStep at h3
 by_cases h14 : m.row.at_ = 14
 ·rw [if_pos h14] at h3; cases h3
 rw [if_neg h14] at h3
 by_cases h0 : m.row.at_ = 0
 ·rw [if_pos h0, hc] at h3; cases h3
 rw [if_neg h0] at h3
 by_cases h1 : m.row.at_ = 1
 ·rw [if_pos h1, hbg] at h3; cases h3
 rw [if_neg h1] at h3
 by_cases h2' : m.row.at_ = 2
 ·rw [if_pos h2', hbg] at h3; cases h3
 rw [if_neg h2'] at h3
 by_cases h3' : m.row.at_ = 3
 ·rw [if_pos h3', if_neg (by rw [hst]; decide)] at h3; cases h3
 rw [if_neg h3'] at h3
 by_cases h10 : 10 ≤ m.row.at_ ∧ m.row.at_ ≤ 13
 ·rw [if_pos h10, hspan] at h3; cases h3
 rw [if_neg h10] at h3
 by_cases h4 : m.row.at_ = 4
 ·rw [if_pos h4, if_neg (by omega), if_neg (by rw [he]; decide)] at h3; exact hbh _ _ h3
 rw [if_neg h4] at h3
 by_cases h6 : m.row.at_ = 6
 ·rw [if_pos h6, if_neg (by omega)] at h3; exact hbh _ _ h3
 rw [if_neg h6] at h3
 by_cases h5 : m.row.at_ = 5
 ·rw [if_pos h5, if_neg (by rw [he]; decide)] at h3; exact hbh _ _ h3
 rw [if_neg h5] at h3
 by_cases h7 : m.row.at_ = 7
 ·rw [if_pos h7, if_neg (by rw [hp]; decide)] at h3; exact hbh _ _ h3
 rw [if_neg h7] at h3
 by_cases h8 : m.row.at_ = 8
 ·rw [if_pos h8, if_neg (by omega)] at h3; exact hbh _ _ h3
 rw [if_neg h8] at h3
 exact hbh _ _ h3
theorem runI_last {m m' : Mc} {pre l : List Lt} {e : Lt} {i : Nat} (hi : Inv m pre) (he : e.kind = 0) (h : runI m i (l ++ [e]) = .inl m') : m'.state = 14 := by
 induction l generalizing m pre i with
 | nil =>
  rw [List.nil_append, runI] at h
  cases hs : stepM m e with
  | none => rw [hs] at h; cases h
  | some m2 =>
   rw [hs] at h
   simp only [runI] at h
   injection h with h
   rw [← h]
   exact stepM_end hs he hi.st
 | cons t l ih =>
  rw [List.cons_append, runI] at h
  cases hs : stepM m t with
  | none => rw [hs] at h; cases h
  | some m2 => rw [hs] at h; exact ih (inv_step hi hs) h
end Go.Proofs.YthcldpminmhgkaaDoor
end
section
namespace Go.Proofs.YthcldpminmhgkaaDoor
open Go.RowKit
theorem pclose_idle (a0 a1 a2 : Value) (w : World) :
  CallsD Tryd.prog 42 #[a0, a1, a2] .returning w fun e u' w' => e = .returned (.tuple #[]) ∧ u' = .returning ∧ w' = w := by
 refine callsD_of_wpS Tryd.func42 rfl fun c₀ cs hu => ?_
 apply wpS_seq
 apply wpS_region
 simp [wpOpsS, go_sem, recoverD, hu, Tryd.ntmps42, Exit.thenS]
 refine wpS_of_wp ?_
 go_wp2
 cases c₀
 simp_all [bodyPostS, results, Tryd.results42]
theorem pscanned_ok (s : ByteArray) (w : World) (ea : List Addr) (ei : Nat) (hs : s.size ≤ 900000000000) (hE : ClsEnv w) (hv : ErrAt w 1 (errI ea ei)) (la : List Lx) (n : Nat) (hr : scanL s.data.toList = (la, none)) (hc : checkS s.data.toList = .inl n) (hn : n ≤ 64) :
  Calls Tryd.prog 43 #[.string s] w fun e w' => Below w.heap.size w w' ∧ ∃ sl, e = .returned sl ∧ OwnL ltS w' w.heap.size sl (la.map Lx.lt) := by
 have hck := scheck_any s w ea ei hs hE hv
 rw [hc] at hck
 have HCK := LH hck
 have HSC := LH (fun (W : World) (hW : Below w.heap.size w W) => Scan_any s W (errI ea ei) hs (hE.belowB hE.2 hW) (hv.below hv.2 hW))
 have HR := LH hr
 have e64 : decide (64 < n) = false := by simp; omega
 clear hck hr hc hE hv
 go_enter Tryd.func43, Tryd.ntmps43
 go_wp2_with fail
 refine HCK.out.mono ?_
 rintro e w2 ⟨hb2, rfl⟩
 simp only []
 have HB2 := LH hb2
 clear hb2
 go_wp2_with fail
 refine (HSC.out w2 HB2.out).mono ?_
 rintro e w3 ⟨hb3, hm⟩
 rw [HR.out] at hm
 obtain ⟨sl, rfl, ho⟩ := hm
 have HB3 := LH (HB2.out.trans (hb3.mono HB2.out.size))
 have HO3 := LH (show OwnL ltS w3 w.heap.size sl (la.map Lx.lt) from ho.lt.more HB2.out.size)
 clear hb3 ho
 go_wp2
 go_ret
 exact ⟨HB3.out, _, rfl, HO3.out⟩
def ParRet (t : Nd) (w : World) (e : Ending) (w' : World) : Prop :=
 Below w.heap.size w w' ∧ ∃ x : NV, e = .returned (.tuple #[x.val, .int .i64 0, .nilIface]) ∧ NdR w' (rng w.heap.size w'.heap.size) x t
theorem pparse_ok (s : ByteArray) (w : World) (ea : List Addr) (ei : Nat) (hs : s.size ≤ 900000000000) (hE : ClsEnv w) (hv : ErrAt w 1 (errI ea ei)) (la : List Lx) (n : Nat) (hr : scanL s.data.toList = (la, none)) (hc : checkS s.data.toList = .inl n) (hn : n ≤ 64)
  (hT : TkOk (la.map Lx.lt)) (A : List Lt) (e0 : Lt) (m : Nat) (v : Vl) (hA : la.map Lx.lt = A ++ [e0]) (he : e0.kind = 0) (hD : D .list A m v) :
  Calls Tryd.prog 26 #[.string s] w (ParRet (treeN (v [])) w) := by
 have hmf : ∀ (fn : Fn) (first cap : Array Value) (w : World), (Instr.makeFunc fn first cap).run Tryd.prog w = .ok (.func fn first cap) w := fun _ _ _ _ => rfl
 have hbw : Below w.heap.size w (((w.alloc zO).alloc (.cells #[.int .i64 0] 3)).alloc (.cells #[.nilIface] 35)) :=
  (((Below.refl _ _).alloc (Nat.le_refl _) _).alloc (by rw [World.size_alloc]; omega) _).alloc (by rw [World.size_alloc, World.size_alloc]; omega) _
 have HB1 := LH hbw
 have HZ1 := LH (((Blk.new w 27 zA).alloc (.cells #[.int .i64 0] 3)).alloc (.cells #[.nilIface] 35))
 have HI1 := LH (show Blk (((w.alloc zO).alloc (.cells #[.int .i64 0] 3)).alloc (.cells #[.nilIface] 35)) (w.heap.size + 1) 3 #[.int .i64 0] from by have h := (Blk.new (w.alloc zO) 3 #[.int .i64 0]).alloc (.cells #[.nilIface] 35); rw [World.size_alloc] at h; exact h)
 have HN1 := LH (show Blk (((w.alloc zO).alloc (.cells #[.int .i64 0] 3)).alloc (.cells #[.nilIface] 35)) (w.heap.size + 1 + 1) 35 #[.nilIface] from by have h := Blk.new ((w.alloc zO).alloc (.cells #[.int .i64 0] 3)) 35 #[.nilIface]; rw [World.size_alloc, World.size_alloc] at h; exact h)
 have HW1 := LH (show (((w.alloc zO).alloc (.cells #[.int .i64 0] 3)).alloc (.cells #[.nilIface] 35)).heap.size = w.heap.size + 3 from by rw [World.size_alloc, World.size_alloc, World.size_alloc])
 have HSC := LH (pscanned_ok s (((w.alloc zO).alloc (.cells #[.int .i64 0] 3)).alloc (.cells #[.nilIface] 35)) ea ei hs (hE.belowB hE.2 hbw) (hv.below hv.2 hbw) la n hr hc hn)
 have HT := LH hT; have HA := LH hA; have HD := LH hD; have HE0 := LH he
 clear hbw hr hc hT hA hD he hE hv
 go_enter_defers Tryd.func26, Tryd.ntmps26
 go_wp2_with fail
 generalize ((w.alloc zO).alloc (.cells #[.int .i64 0] 3)).alloc (.cells #[.nilIface] 35) = w1 at *
 refine HSC.out.mono ?_
 rintro e w3 ⟨hb3, sl, rfl, ho⟩
 obtain ⟨RA, rc, rfl, -, -⟩ := ho.form
 have HB3 := LH (HB1.out.trans (hb3.mono HB1.out.size))
 have HZ3 := LH (HZ1.out.belowW hb3); have HI3 := LH (HI1.out.belowW hb3); have HN3 := LH (HN1.out.belowW hb3)
 have HW3 := LH (show w.heap.size + 3 ≤ w3.heap.size from by have h1 := HW1.out; have h2 := hb3.size; omega)
 have HP4 := LH (show PsAt (w3.alloc (.cells #[.slice RA (la.map Lx.lt).length rc, .int .i64 0] 85)) w3.heap.size RA rc (la.map Lx.lt) 0 from ⟨Blk.new w3 _ _, (RdL.of_own ho).alloc (Nat.le_refl _) _⟩)
 clear hb3 ho
 rw [List.length_map] at HP4 ⊢
 have HB4 := LH (show Below w.heap.size w (w3.alloc (.cells #[.slice RA la.length rc, .int .i64 0] 85)) from HB3.out.alloc HB3.out.size _)
 have HZ4 := LH (HZ3.out.alloc (.cells #[.slice RA la.length rc, .int .i64 0] 85)); have HI4 := LH (HI3.out.alloc (.cells #[.slice RA la.length rc, .int .i64 0] 85)); have HN4 := LH (HN3.out.alloc (.cells #[.slice RA la.length rc, .int .i64 0] 85))
 have HPL := LH (show Calls Tryd.prog 45 #[.pointer (some ⟨w3.heap.size, 0, none⟩), .string ⟨#[]⟩] (w3.alloc (.cells #[.slice RA la.length rc, .int .i64 0] 85)) (LsRet w3.heap.size RA rc (la.map Lx.lt) (0 + A.length) (v []) (w3.alloc (.cells #[.slice RA la.length rc, .int .i64 0] 85))) from
  parts_ok HT.out (A.length + 1) A m v HD.out (Nat.lt_succ_self _) _ 0 [] [e0] (by rw [List.drop_zero]; exact HA.out) ⟨e0, [], rfl, .inl HE0.out⟩ HP4.out)
 have HS4 := LH (show (w3.alloc (.cells #[.slice RA la.length rc, .int .i64 0] 85)).heap.size = w3.heap.size + 1 from World.size_alloc _ _)
 go_wp2_with fail
 generalize w3.alloc (.cells #[.slice RA la.length rc, .int .i64 0] 85) = w4 at *
 refine HPL.out.mono ?_
 rintro e w5 ⟨hb5, hp5, ⟨ska, skn, skc⟩, ⟨soa, son, soc⟩, nl, rfl, hk5, ho5, hn5⟩
 have HB5 := LH (show Below w.heap.size w w5 from HB4.out.trans (hb5.below.mono HB3.out.size))
 have HZ5 := LH (HZ4.out.pb hb5 (by have := HW3.out; omega)); have HI5 := LH (HI4.out.pb hb5 (by have := HW3.out; omega)); have HN5 := LH (HN4.out.pb hb5 (by have := HW3.out; omega))
 have HTR := LH (ptree_any w5 (rng w4.heap.size w5.heap.size) ⟨ska, skn, skc⟩ ⟨soa, son, soc⟩ nl (v []) hk5 ho5 hn5 (fun b h => h.2))
 clear hb5 hp5 hk5 ho5 hn5
 go_wp2_with fail
 refine HTR.out.mono ?_
 rintro e w6 ⟨hb6, x, rfl, hx⟩
 obtain ⟨kd, fl, tx, xn, ⟨l1, l2, l3⟩, ⟨r1, r2, r3⟩, ⟨oa, on, oc⟩, ⟨ka, kn, kc⟩⟩ := x
 unfold NV.val
 simp only []
 have HB6 := LH (HB5.out.trans (hb6.mono HB5.out.size))
 have HX6 := LH hx
 have HF6 := LH (fun (b : Nat) (h : rng w4.heap.size w5.heap.size b) => (show w.heap.size + 2 < b ∧ b < w6.heap.size from ⟨by have h1 := HW3.out; have h2 := HS4.out; have := h.1; omega, Nat.lt_of_lt_of_le h.2 hb6.size⟩))
 have hzz := HZ5.out.belowW hb6
 have hii := HI5.out.belowW hb6
 have hnn := HN5.out.belowW hb6
 clear hb6 hx
 have z0 := hzz.cell 0; have z1 := hzz.cell 1; have z2 := hzz.cell 2; have z3 := hzz.cell 3; have z4 := hzz.cell 4; have z5 := hzz.cell 5; have z6 := hzz.cell 6; have z7 := hzz.cell 7; have z8 := hzz.cell 8; have z9 := hzz.cell 9; have z10 := hzz.cell 10; have z11 := hzz.cell 11
 have fz0 := hzz.frozen 0; have fz1 := hzz.frozen 1; have fz2 := hzz.frozen 2; have fz3 := hzz.frozen 3; have fz4 := hzz.frozen 4; have fz5 := hzz.frozen 5; have fz6 := hzz.frozen 6; have fz7 := hzz.frozen 7; have fz8 := hzz.frozen 8; have fz9 := hzz.frozen 9; have fz10 := hzz.frozen 10; have fz11 := hzz.frozen 11
 have i0 := hii.cell 0; have fi0 := hii.frozen 0; have n0 := hnn.cell 0; have fn0 := hnn.frozen 0
 have lz := hzz.lt; have li := hii.lt; have ln := hnn.lt
 simp only [List.getElem?_toArray, List.getElem?_cons_zero, List.getElem?_cons_succ] at z0 z1 z2 z3 z4 z5 z6 z7 z8 z9 z10 z11 i0 n0
 have HZ6 := LH hzz; have HI6 := LH hii; have HN6 := LH hnn
 clear hzz hii hnn
 go_wp2
 clear z0 z1 z2 z3 z4 z5 z6 z7 z8 z9 z10 z11 fz0 fz1 fz2 fz3 fz4 fz5 fz6 fz7 fz8 fz9 fz10 fz11 i0 fi0 n0 fn0 lz li ln
 have HZF := LH (show Blk ((((((((((((((w6.setCell ⟨w.heap.size, 0, none⟩ (.int .i64 kd)).setCell ⟨w.heap.size, 1, none⟩ (.string (str fl))).setCell ⟨w.heap.size, 2, none⟩ (.string (str tx))).setCell ⟨w.heap.size, 3, none⟩ (.int .i64 xn)).setCell ⟨w.heap.size, 4, none⟩ (.bool l1)).setCell ⟨w.heap.size, 5, none⟩ (.bool l2)).setCell ⟨w.heap.size, 6, none⟩ (.string (str l3))).setCell ⟨w.heap.size, 7, none⟩ (.bool r1)).setCell ⟨w.heap.size, 8, none⟩ (.bool r2)).setCell ⟨w.heap.size, 9, none⟩ (.string (str r3))).setCell ⟨w.heap.size, 10, none⟩ (.slice oa on oc)).setCell ⟨w.heap.size, 11, none⟩ (.slice ka kn kc)).setCell ⟨w.heap.size + 1, 0, none⟩ (.int .i64 0)).setCell ⟨w.heap.size + 1 + 1, 0, none⟩ .nilIface) w.heap.size 27 (NV.cells ⟨kd, fl, tx, xn, ⟨l1, l2, l3⟩, ⟨r1, r2, r3⟩, ⟨oa, on, oc⟩, ⟨ka, kn, kc⟩⟩).toArray from ((((Blk.set12 (x := ⟨0, [], [], 0, bd0, bd0, ⟨none, 0, 0⟩, ⟨none, 0, 0⟩⟩) (y := ⟨kd, fl, tx, xn, ⟨l1, l2, l3⟩, ⟨r1, r2, r3⟩, ⟨oa, on, oc⟩, ⟨ka, kn, kc⟩⟩) HZ6.out).far (p := ⟨w.heap.size + 1, 0, none⟩) (by show w.heap.size ≠ w.heap.size + 1; omega) _)).far (p := ⟨w.heap.size + 1 + 1, 0, none⟩) (by show w.heap.size ≠ w.heap.size + 1 + 1; omega) _))
 have HIF := LH (show Blk ((((((((((((((w6.setCell ⟨w.heap.size, 0, none⟩ (.int .i64 kd)).setCell ⟨w.heap.size, 1, none⟩ (.string (str fl))).setCell ⟨w.heap.size, 2, none⟩ (.string (str tx))).setCell ⟨w.heap.size, 3, none⟩ (.int .i64 xn)).setCell ⟨w.heap.size, 4, none⟩ (.bool l1)).setCell ⟨w.heap.size, 5, none⟩ (.bool l2)).setCell ⟨w.heap.size, 6, none⟩ (.string (str l3))).setCell ⟨w.heap.size, 7, none⟩ (.bool r1)).setCell ⟨w.heap.size, 8, none⟩ (.bool r2)).setCell ⟨w.heap.size, 9, none⟩ (.string (str r3))).setCell ⟨w.heap.size, 10, none⟩ (.slice oa on oc)).setCell ⟨w.heap.size, 11, none⟩ (.slice ka kn kc)).setCell ⟨w.heap.size + 1, 0, none⟩ (.int .i64 0)).setCell ⟨w.heap.size + 1 + 1, 0, none⟩ .nilIface) (w.heap.size + 1) 3 #[.int .i64 0] from ((HI6.out.off12 (z := w.heap.size) (y := ⟨kd, fl, tx, xn, ⟨l1, l2, l3⟩, ⟨r1, r2, r3⟩, ⟨oa, on, oc⟩, ⟨ka, kn, kc⟩⟩) (by omega)).set_ 0 (.int .i64 0)).far (p := ⟨w.heap.size + 1 + 1, 0, none⟩) (by show w.heap.size + 1 ≠ w.heap.size + 1 + 1; omega) _)
 have HNF := LH (show Blk ((((((((((((((w6.setCell ⟨w.heap.size, 0, none⟩ (.int .i64 kd)).setCell ⟨w.heap.size, 1, none⟩ (.string (str fl))).setCell ⟨w.heap.size, 2, none⟩ (.string (str tx))).setCell ⟨w.heap.size, 3, none⟩ (.int .i64 xn)).setCell ⟨w.heap.size, 4, none⟩ (.bool l1)).setCell ⟨w.heap.size, 5, none⟩ (.bool l2)).setCell ⟨w.heap.size, 6, none⟩ (.string (str l3))).setCell ⟨w.heap.size, 7, none⟩ (.bool r1)).setCell ⟨w.heap.size, 8, none⟩ (.bool r2)).setCell ⟨w.heap.size, 9, none⟩ (.string (str r3))).setCell ⟨w.heap.size, 10, none⟩ (.slice oa on oc)).setCell ⟨w.heap.size, 11, none⟩ (.slice ka kn kc)).setCell ⟨w.heap.size + 1, 0, none⟩ (.int .i64 0)).setCell ⟨w.heap.size + 1 + 1, 0, none⟩ .nilIface) (w.heap.size + 1 + 1) 35 #[.nilIface] from (((HN6.out.off12 (z := w.heap.size) (y := ⟨kd, fl, tx, xn, ⟨l1, l2, l3⟩, ⟨r1, r2, r3⟩, ⟨oa, on, oc⟩, ⟨ka, kn, kc⟩⟩) (by omega)).far (p := ⟨w.heap.size + 1, 0, none⟩) (by show w.heap.size + 1 + 1 ≠ w.heap.size + 1; omega) _).set_ 0 .nilIface))
 have HXF := LH (show NdR ((((((((((((((w6.setCell ⟨w.heap.size, 0, none⟩ (.int .i64 kd)).setCell ⟨w.heap.size, 1, none⟩ (.string (str fl))).setCell ⟨w.heap.size, 2, none⟩ (.string (str tx))).setCell ⟨w.heap.size, 3, none⟩ (.int .i64 xn)).setCell ⟨w.heap.size, 4, none⟩ (.bool l1)).setCell ⟨w.heap.size, 5, none⟩ (.bool l2)).setCell ⟨w.heap.size, 6, none⟩ (.string (str l3))).setCell ⟨w.heap.size, 7, none⟩ (.bool r1)).setCell ⟨w.heap.size, 8, none⟩ (.bool r2)).setCell ⟨w.heap.size, 9, none⟩ (.string (str r3))).setCell ⟨w.heap.size, 10, none⟩ (.slice oa on oc)).setCell ⟨w.heap.size, 11, none⟩ (.slice ka kn kc)).setCell ⟨w.heap.size + 1, 0, none⟩ (.int .i64 0)).setCell ⟨w.heap.size + 1 + 1, 0, none⟩ .nilIface) (rng w4.heap.size w5.heap.size) ⟨kd, fl, tx, xn, ⟨l1, l2, l3⟩, ⟨r1, r2, r3⟩, ⟨oa, on, oc⟩, ⟨ka, kn, kc⟩⟩ (treeN (v [])) from (HX6.out.set12 (z := w.heap.size) (y := ⟨kd, fl, tx, xn, ⟨l1, l2, l3⟩, ⟨r1, r2, r3⟩, ⟨oa, on, oc⟩, ⟨ka, kn, kc⟩⟩) (fun b h e => by have := (HF6.out b h).1; omega)).keep fun p hp _ => by
  have h := (HF6.out _ hp).1
  exact (World.cell?_of_block ((Below.heap_setCell _ ⟨w.heap.size + 1 + 1, 0, none⟩ _ p.block (by show p.block ≠ w.heap.size + 1 + 1; omega)).trans (Below.heap_setCell _ ⟨w.heap.size + 1, 0, none⟩ _ p.block (by show p.block ≠ w.heap.size + 1; omega)))))
 have hset : ∀ (W : World) (p : Addr) (u : Value), Below w.heap.size w W → w.heap.size ≤ p.block → Below w.heap.size w (W.setCell p u) := fun W p u h hp => h.setCell hp u
 have HBF := LH (show Below w.heap.size w ((((((((((((((w6.setCell ⟨w.heap.size, 0, none⟩ (.int .i64 kd)).setCell ⟨w.heap.size, 1, none⟩ (.string (str fl))).setCell ⟨w.heap.size, 2, none⟩ (.string (str tx))).setCell ⟨w.heap.size, 3, none⟩ (.int .i64 xn)).setCell ⟨w.heap.size, 4, none⟩ (.bool l1)).setCell ⟨w.heap.size, 5, none⟩ (.bool l2)).setCell ⟨w.heap.size, 6, none⟩ (.string (str l3))).setCell ⟨w.heap.size, 7, none⟩ (.bool r1)).setCell ⟨w.heap.size, 8, none⟩ (.bool r2)).setCell ⟨w.heap.size, 9, none⟩ (.string (str r3))).setCell ⟨w.heap.size, 10, none⟩ (.slice oa on oc)).setCell ⟨w.heap.size, 11, none⟩ (.slice ka kn kc)).setCell ⟨w.heap.size + 1, 0, none⟩ (.int .i64 0)).setCell ⟨w.heap.size + 1 + 1, 0, none⟩ .nilIface) from by
  repeat (first | with_reducible exact HB6.out | with_reducible refine hset _ _ _ ?_ (by first | exact Nat.le_refl _ | (show w.heap.size ≤ w.heap.size + 1; omega) | (show w.heap.size ≤ w.heap.size + 1 + 1; omega))))
 have HSF := LH (show ((((((((((((((w6.setCell ⟨w.heap.size, 0, none⟩ (.int .i64 kd)).setCell ⟨w.heap.size, 1, none⟩ (.string (str fl))).setCell ⟨w.heap.size, 2, none⟩ (.string (str tx))).setCell ⟨w.heap.size, 3, none⟩ (.int .i64 xn)).setCell ⟨w.heap.size, 4, none⟩ (.bool l1)).setCell ⟨w.heap.size, 5, none⟩ (.bool l2)).setCell ⟨w.heap.size, 6, none⟩ (.string (str l3))).setCell ⟨w.heap.size, 7, none⟩ (.bool r1)).setCell ⟨w.heap.size, 8, none⟩ (.bool r2)).setCell ⟨w.heap.size, 9, none⟩ (.string (str r3))).setCell ⟨w.heap.size, 10, none⟩ (.slice oa on oc)).setCell ⟨w.heap.size, 11, none⟩ (.slice ka kn kc)).setCell ⟨w.heap.size + 1, 0, none⟩ (.int .i64 0)).setCell ⟨w.heap.size + 1 + 1, 0, none⟩ .nilIface).heap.size = w6.heap.size from by simp only [set_size])
 clear hset
 generalize ((((((((((((((w6.setCell ⟨w.heap.size, 0, none⟩ (.int .i64 kd)).setCell ⟨w.heap.size, 1, none⟩ (.string (str fl))).setCell ⟨w.heap.size, 2, none⟩ (.string (str tx))).setCell ⟨w.heap.size, 3, none⟩ (.int .i64 xn)).setCell ⟨w.heap.size, 4, none⟩ (.bool l1)).setCell ⟨w.heap.size, 5, none⟩ (.bool l2)).setCell ⟨w.heap.size, 6, none⟩ (.string (str l3))).setCell ⟨w.heap.size, 7, none⟩ (.bool r1)).setCell ⟨w.heap.size, 8, none⟩ (.bool r2)).setCell ⟨w.heap.size, 9, none⟩ (.string (str r3))).setCell ⟨w.heap.size, 10, none⟩ (.slice oa on oc)).setCell ⟨w.heap.size, 11, none⟩ (.slice ka kn kc)).setCell ⟨w.heap.size + 1, 0, none⟩ (.int .i64 0)).setCell ⟨w.heap.size + 1 + 1, 0, none⟩ .nilIface) = wf at *
 refine leaves_cons (f := 42) (args := #[.pointer (some ⟨w.heap.size, 0, none⟩), .pointer (some ⟨w.heap.size + 1, 0, none⟩), .pointer (some ⟨w.heap.size + 1 + 1, 0, none⟩)]) (by simp) (by simp [go_sem]) ?_
 refine (pclose_idle _ _ _ wf).mono ?_
 rintro e u' w'' ⟨rfl, rfl, rfl⟩
 have hzz := HZF.out
 have z0 := hzz.cell 0; have z1 := hzz.cell 1; have z2 := hzz.cell 2; have z3 := hzz.cell 3; have z4 := hzz.cell 4; have z5 := hzz.cell 5; have z6 := hzz.cell 6; have z7 := hzz.cell 7; have z8 := hzz.cell 8; have z9 := hzz.cell 9; have z10 := hzz.cell 10; have z11 := hzz.cell 11
 have i0 := HIF.out.cell 0; have n0 := HNF.out.cell 0
 unfold NV.cells at z0 z1 z2 z3 z4 z5 z6 z7 z8 z9 z10 z11
 simp only [List.getElem?_toArray, List.getElem?_cons_zero, List.getElem?_cons_succ] at z0 z1 z2 z3 z4 z5 z6 z7 z8 z9 z10 z11 i0 n0
 clear hzz
 simp [Leaves, settle, results, Tryd.results26, go_sem, z0, z1, z2, z3, z4, z5, z6, z7, z8, z9, z10, z11, i0, n0]
 exact ⟨HBF.out, ⟨kd, fl, tx, xn, ⟨l1, l2, l3⟩, ⟨r1, r2, r3⟩, ⟨oa, on, oc⟩, ⟨ka, kn, kc⟩⟩, rfl, HXF.out.mono fun b h => ⟨by have := (HF6.out b h).1; omega, by rw [HSF.out]; exact (HF6.out b h).2⟩⟩
def fltV (p : Int) (v : Value) : Value := .iface 81 (.agg #[.int .i64 p, v])
theorem pscanned_bad (s : ByteArray) (w : World) (ea : List Addr) (ei : Nat) (hs : s.size ≤ 900000000000) (hE : ClsEnv w) (hv : ErrAt w 1 (errI ea ei)) (p : Nat) (hc : checkS s.data.toList = .inr p) :
  Calls Tryd.prog 43 #[.string s] w fun e w' => Below w.heap.size w w' ∧ e = .panicked [{ v := fltV p (errI ea ei), recovered := false }] := by
 have hck := scheck_any s w ea ei hs hE hv
 rw [hc] at hck
 have HCK := LH hck
 have hz1 := fun W => errI_nnil ea ei W
 have hz2 := fun op x y W => errI_guard0 ea ei op x y W
 have he : errI ea ei = .iface 144 (.pointer (some (ea.getD ei ⟨0, 0, none⟩))) := rfl
 rw [he] at hck hz1 hz2 HCK ⊢
 generalize ea.getD ei ⟨0, 0, none⟩ = a at *
 clear hck hc hE hv he
 go_enter Tryd.func43, Tryd.ntmps43
 go_wp2_with fail
 refine HCK.out.mono ?_
 rintro e w2 ⟨hb2, rfl⟩
 simp only []
 have HB2 := LH hb2
 clear hb2
 go_wp2
 first | exact ⟨HB2.out, rfl⟩ | (simp [bodyPost]; exact HB2.out) | (simp [bodyPost, fltV]; exact HB2.out)
theorem pscanned_deep (s : ByteArray) (w : World) (ea : List Addr) (ei ej : Nat) (hs : s.size ≤ 900000000000) (hE : ClsEnv w) (hv : ErrAt w 1 (errI ea ei)) (hd : ErrAt w 18 (errI ea ej)) (n : Nat) (hc : checkS s.data.toList = .inl n) (hn : 64 < n) :
  Calls Tryd.prog 43 #[.string s] w fun e w' => Below w.heap.size w w' ∧ e = .panicked [{ v := fltV 0 (errI ea ej), recovered := false }] := by
 have hck := scheck_any s w ea ei hs hE hv
 rw [hc] at hck
 have HCK := LH hck
 have HD := LH (fun (W : World) (hW : Below w.heap.size w W) => hd.below hd.2 hW)
 have he : errI ea ej = .iface 144 (.pointer (some (ea.getD ej ⟨0, 0, none⟩))) := rfl
 rw [he] at HD ⊢
 generalize ea.getD ej ⟨0, 0, none⟩ = a at *
 have e64 : decide (64 < n) = true := by simp; omega
 have e64' : decide ((64 : Int) < (n : Int)) = true := by simp; omega
 clear hck hc hE hv hd he
 go_enter Tryd.func43, Tryd.ntmps43
 go_wp2_with fail
 refine HCK.out.mono ?_
 rintro e w2 ⟨hb2, rfl⟩
 simp only []
 have HB2 := LH hb2
 have hg := (HD.out w2 hb2).1
 have hg2 := (HD.out w2 hb2).2
 clear hb2
 go_wp2
 first | exact ⟨HB2.out, rfl⟩ | (simp [bodyPost]; exact HB2.out) | (simp [bodyPost, fltV]; exact HB2.out)
end Go.Proofs.YthcldpminmhgkaaDoor
end
