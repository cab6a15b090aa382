/- Merged for a claim by shake.py: Rw Ta Hb Hc -/
import Derived.Test.YtcomdkejpaoneaaDoorKg1
import Derived.Test.YtcomdkejpaoneaaDoorKg11
import Derived.Test.YtcomdkejpaoneaaDoorKg13
import Derived.Test.YtcomdkejpaoneaaDoorKg17
section
namespace Go.Proofs.YtcomdkejpaoneaaDoor
set_option linter.unusedSimpArgs false
set_option linter.unusedVariables false
structure Rw where
  at_ : Nat
  signed : Bool
  open_ : List Bool
def Rw.to (r : Rw) (s : Nat) : Rw := ⟨s, r.signed, r.open_⟩
def rAtom (t : Lt) (field : Bool) : Option Nat :=
  if t.kind = 1 then some (if field = true then 5 else 4)
  else if t.kind = 2 then some (if starT t = true ∧ field = false then 6 else 9)
  else if t.kind = 3 then some 7
  else if t.kind = 8 then some 0
  else if t.kind = 10 ∨ t.kind = 12 then some 10
  else none
def rBegun (r : Rw) (t : Lt) (field : Bool) : Option Rw :=
  if t.kind = 6 ∧ field = false then some (r.to 1)
  else match rAtom t field with
    | none => none
    | some a => if t.kind = 8 then some ⟨a, false, r.open_ ++ [r.signed]⟩ else some (r.to a)
def rClause (r : Rw) (t : Lt) : Option Rw :=
  if t.kind = 15 ∨ t.kind = 16 then some ⟨1, true, r.open_⟩ else rBegun ⟨r.at_, false, r.open_⟩ t false
def rBehind (r : Rw) (t : Lt) : Option Rw :=
  if t.kind = 18 ∨ t.kind = 19 then some (r.to 9)
  else if t.kind = 4 ∨ t.kind = 5 ∨ t.kind = 17 then if r.signed = true then none else some (r.to 1)
  else if t.kind = 9 then match r.open_.getLast? with
    | none => none
    | some b => some ⟨8, b, r.open_.dropLast⟩
  else if t.kind = 0 then if r.open_ = [] then some (r.to 14) else none
  else rClause r t
def rSpan (r : Rw) (t : Lt) : Option Rw :=
  if r.at_ = 10 ∨ r.at_ = 12 then (if sideT t = true then some (r.to (r.at_ + 1)) else none)
  else if r.at_ = 11 then (if t.kind = 7 then some (r.to 12) else none)
  else (if t.kind = 11 ∨ t.kind = 13 then some (r.to 9) else none)
def editsT (t : Lt) : Bool := decide (t.kind = 20) && (decide (t.n = -1) || decide (t.n = 1) || decide (t.n = 2))
def slopT (t : Lt) : Bool := decide (t.kind = 20) && decide (0 ≤ t.n)
def rStep (r : Rw) (t : Lt) : Option Rw :=
  if r.at_ = 14 then none
  else if r.at_ = 0 then rClause r t
  else if r.at_ = 1 then rBegun r t false
  else if r.at_ = 2 then rBegun r t true
  else if r.at_ = 3 then (if starT t = true then some (r.to 9) else none)
  else if 10 ≤ r.at_ ∧ r.at_ ≤ 13 then rSpan r t
  else if r.at_ = 4 then (if t.kind = 14 then some (r.to 2) else if editsT t = true then some (r.to 9) else rBehind r t)
  else if r.at_ = 6 then (if t.kind = 14 then some (r.to 3) else rBehind r t)
  else if r.at_ = 5 then (if editsT t = true then some (r.to 9) else rBehind r t)
  else if r.at_ = 7 then (if slopT t = true then some (r.to 9) else rBehind r t)
  else if r.at_ = 8 then (if t.kind = 21 then some (r.to 9) else rBehind r t)
  else rBehind r t
def Mc.row (m : Mc) : Rw := ⟨m.state, m.at_.signed, m.below.map (·.signed)⟩
theorem row_body {m : Mc} (t : Lt) : rBegun m.row t true = (bodyM m t).map Mc.row := by
  unfold rBegun bodyM rAtom
  by_cases h1 : t.kind = 1
  · simp [h1, Mc.to, Rw.to, Mc.row]
  by_cases h2 : t.kind = 2
  · simp [h2, Mc.to, Rw.to, Mc.row]
  by_cases h3 : t.kind = 3
  · simp [h3, Mc.to, Rw.to, Mc.row]
  by_cases h10 : t.kind = 10 ∨ t.kind = 12
  · have h8 : ¬ t.kind = 8 := by omega
    simp [h1, h2, h3, h8, h10, Mc.to, Rw.to, Mc.row]
  by_cases h8 : t.kind = 8
  · simp [h8, Mc.to, Rw.to, Mc.row, lev0]
  · simp [h1, h2, h3, h8, h10]
theorem row_unary {m : Mc} (t : Lt) : rBegun m.row t false = (unaryM m t).map Mc.row := by
  unfold unaryM
  by_cases h6 : t.kind = 6
  · unfold rBegun
    simp [h6, Mc.to, Rw.to, Mc.row]
  rw [if_neg h6]
  by_cases h1 : t.kind = 1
  · unfold rBegun rAtom
    simp [h1, Mc.to, Rw.to, Mc.row]
  rw [if_neg h1]
  by_cases hs : starT t = true
  · have h2 : t.kind = 2 := by simp [starT] at hs; exact hs.1
    unfold rBegun rAtom
    simp [h2, hs, Mc.to, Rw.to, Mc.row]
  rw [if_neg hs, ← row_body]
  unfold rBegun rAtom
  simp [h6, h1, hs]
theorem row_clause {m : Mc} (t : Lt) : rClause m.row t = (clauseM m t).map Mc.row := by
  unfold rClause clauseM
  by_cases h : t.kind = 15 ∨ t.kind = 16
  · rw [if_pos h, if_pos h]; rfl
  · rw [if_neg h, if_neg h, ← row_unary]; rfl
theorem clause_none {m : Mc} {t : Lt} (h : t.kind = 20 ∨ t.kind = 14 ∨ t.kind = 21) : clauseM m t = none := by
  have hs : starT t = false := by simp [starT]; omega
  unfold clauseM unaryM bodyM
  rw [if_neg (by omega), if_neg (by omega), if_neg (by omega), if_neg (by simp [hs]), if_neg (by omega), if_neg (by omega), if_neg (by omega), if_neg (by omega), if_neg (by omega)]
theorem row_behind {m : Mc} (t : Lt) (h20 : t.kind ≠ 20) (h4 : ¬ (m.state = 4 ∧ t.kind = 14)) (h6 : ¬ (m.state = 6 ∧ t.kind = 14)) (h8 : ¬ (m.state = 8 ∧ t.kind = 21)) : rBehind m.row t = (afterM m t).map Mc.row := by
  unfold rBehind afterM
  rw [if_neg h4, if_neg h6, if_neg h20, if_neg h8]
  by_cases h : t.kind = 18 ∨ t.kind = 19
  · rw [if_pos h, if_pos h]; rfl
  rw [if_neg h, if_neg h]
  by_cases h : t.kind = 4 ∨ t.kind = 5 ∨ t.kind = 17
  · rw [if_pos h, if_pos h]
    show (if m.at_.signed = true then none else _) = _
    by_cases hg : m.at_.signed = true
    · rw [if_pos hg, if_pos hg]; rfl
    · rw [if_neg hg, if_neg hg]; rfl
  rw [if_neg h, if_neg h]
  by_cases h9 : t.kind = 9
  · have h0 : ¬ t.kind = 0 := by omega
    rw [if_pos h9, if_neg h0, if_pos h9]
    unfold shutM
    show (match (m.below.map (fun l : Lev => l.signed)).getLast? with | none => none | some b => some (Rw.mk 8 b (m.below.map (fun l : Lev => l.signed)).dropLast)) = _
    rw [List.getLast?_map, ← List.map_dropLast]
    cases m.below.getLast? <;> rfl
  rw [if_neg h9]
  by_cases h0 : t.kind = 0
  · rw [if_pos h0, if_pos h0]
    show (if m.below.map (fun l : Lev => l.signed) = [] then some (m.row.to 14) else none) = _
    by_cases hb : m.below = []
    · rw [if_pos hb, if_pos (by rw [hb]; rfl)]; rfl
    · rw [if_neg hb, if_neg (by simpa using hb)]; rfl
  rw [if_neg h0, if_neg h0, if_neg h9]
  have := row_clause (m := m.close.to 0) t
  rw [← this]
  unfold rClause rBegun
  rfl
theorem behind_none {r : Rw} {t : Lt} (h : t.kind = 20 ∨ t.kind = 14 ∨ t.kind = 21) : rBehind r t = none := by
  have hs : starT t = false := by simp [starT]; omega
  unfold rBehind
  rw [if_neg (by omega), if_neg (by omega), if_neg (by omega), if_neg (by omega)]
  unfold rClause rBegun rAtom
  rw [if_neg (by omega), if_neg (by omega), if_neg (by omega), if_neg (by omega), if_neg (by omega), if_neg (by omega), if_neg (by omega)]
theorem row_step {m : Mc} (t : Lt) (hm : m.state ≤ 14) : rStep m.row t = (stepM m t).map Mc.row := by
  have e : m.row.at_ = m.state := rfl
  unfold rStep stepM
  rw [e]
  by_cases h14 : m.state = 14
  · rw [if_pos h14, if_neg (by omega), if_neg (by omega), if_neg (by omega), if_neg (by omega), if_neg (by omega), if_neg (by omega), if_neg (by omega), if_neg (by omega), if_pos h14]; rfl
  rw [if_neg h14]
  by_cases h0 : m.state = 0
  · rw [if_pos h0, if_pos h0, row_clause]
  rw [if_neg h0, if_neg h0]
  by_cases h1 : m.state = 1
  · rw [if_pos h1, if_pos h1, row_unary]
  rw [if_neg h1, if_neg h1]
  by_cases h2 : m.state = 2
  · rw [if_pos h2, if_pos h2, row_body]
  rw [if_neg h2, if_neg h2]
  by_cases h3 : m.state = 3
  · rw [if_pos h3, if_pos h3]
    split <;> rfl
  rw [if_neg h3, if_neg h3]
  by_cases h10 : m.state = 10
  · rw [if_pos (by omega), if_pos h10]
    unfold rSpan sideM
    rw [e, if_pos (.inl h10), h10]
    split <;> rfl
  rw [if_neg h10]
  by_cases h11 : m.state = 11
  · rw [if_pos (by omega), if_pos h11]
    unfold rSpan
    rw [e, if_neg (by omega), if_pos h11]
    split <;> rfl
  rw [if_neg h11]
  by_cases h12 : m.state = 12
  · rw [if_pos (by omega), if_pos h12]
    unfold rSpan sideM
    rw [e, if_pos (.inr h12), h12]
    split <;> rfl
  rw [if_neg h12]
  by_cases h13 : m.state = 13
  · rw [if_pos (by omega), if_pos h13]
    unfold rSpan
    rw [e, if_neg (by omega), if_neg (by omega)]
    split <;> rfl
  rw [if_neg h13, if_neg h14, if_neg (by omega)]
  by_cases h20 : t.kind = 20
  · rw [behind_none (.inl h20)]
    unfold afterM editsT slopT
    rw [if_neg (by omega : ¬ t.kind = 14), if_neg (by omega : ¬ t.kind = 14), if_neg (by omega : ¬ (m.state = 4 ∧ t.kind = 14)), if_neg (by omega : ¬ (m.state = 6 ∧ t.kind = 14)), if_pos h20, if_neg (by omega : ¬ t.kind = 21)]
    simp only [h20, decide_true, Bool.true_and, Bool.or_eq_true, decide_eq_true_eq, or_assoc]
    by_cases h4 : m.state = 4
    · have h7 : ¬ m.state = 7 := by omega
      simp only [h4, if_true, true_or, true_and, Nat.reduceEqDiff, false_and, or_false, reduceIte]
      split <;> rfl
    rw [if_neg h4]
    by_cases h6 : m.state = 6
    · simp only [h6, Nat.reduceEqDiff, false_and, or_false, reduceIte]; rfl
    rw [if_neg h6]
    by_cases h5 : m.state = 5
    · simp only [h5, if_true, or_true, true_and, Nat.reduceEqDiff, false_and, or_false, reduceIte]
      split <;> rfl
    rw [if_neg h5]
    by_cases h7 : m.state = 7
    · simp only [h7, true_and, Nat.reduceEqDiff, false_or, false_and, or_false, reduceIte]
      split <;> rfl
    rw [if_neg h7]
    simp only [h4, h5, h7, false_or, false_and, or_false, ite_self, if_false]; rfl
  have he : editsT t = false := by simp [editsT, h20]
  have hsl : slopT t = false := by simp [slopT, h20]
  rw [he, hsl]
  simp only [Bool.false_eq_true, if_false]
  by_cases h14k : t.kind = 14
  · rw [behind_none (.inr (.inl h14k))]
    unfold afterM
    rw [if_neg h20, if_neg (by omega : ¬ (m.state = 8 ∧ t.kind = 21)), if_neg (by omega : ¬ (t.kind = 18 ∨ t.kind = 19)), if_neg (by omega : ¬ (t.kind = 4 ∨ t.kind = 5 ∨ t.kind = 17)), if_neg (by omega : ¬ t.kind = 0), if_neg (by omega : ¬ t.kind = 9), clause_none (.inr (.inl h14k))]
    simp only [h14k, and_true, if_true]
    by_cases h4 : m.state = 4
    · simp only [h4, if_true, reduceIte]; rfl
    by_cases h6 : m.state = 6
    · simp only [h4, h6, if_true, if_false, reduceIte, Nat.reduceEqDiff]; rfl
    simp [h4, h6, h14k]
  by_cases h21 : t.kind = 21
  · rw [behind_none (.inr (.inr h21))]
    unfold afterM
    rw [if_neg (by omega : ¬ (m.state = 4 ∧ t.kind = 14)), if_neg (by omega : ¬ (m.state = 6 ∧ t.kind = 14)), if_neg h20, if_neg (by omega : ¬ (t.kind = 18 ∨ t.kind = 19)), if_neg (by omega : ¬ (t.kind = 4 ∨ t.kind = 5 ∨ t.kind = 17)), if_neg (by omega : ¬ t.kind = 0), if_neg (by omega : ¬ t.kind = 9), clause_none (.inr (.inr h21))]
    by_cases h8 : m.state = 8
    · simp [h8, h21, Mc.to, Rw.to, Mc.row]
    · simp [h8, h21]
  rw [if_neg h14k, if_neg h14k, if_neg h21]
  simp only [ite_self]
  exact row_behind t h20 (by omega) (by omega) (by omega)
end Go.Proofs.YtcomdkejpaoneaaDoor
end
section
namespace Go.Proofs.YtcomdkejpaoneaaDoor
open Go.RowKit
set_option maxRecDepth 100000
set_option maxHeartbeats 4000000
set_option linter.unusedSimpArgs false
set_option linter.unusedVariables false
def rbS : Shape Bool := { tS := 97, tE := 4, size := 1, bytes := 1, enc := fun x => [.bool x], zero := .bool false }
def RwV (w : World) (B : Nat) (v x : Value) (r : Rw) : Prop := B ≤ w.heap.size ∧ x = .agg #[.int .i64 (r.at_ : Int), .bool r.signed, v] ∧ RdL rbS w B v r.open_
def RwO (w : World) (C : Nat) (v0 : Value) (ro : List Bool) (x : Value) (r : Rw) : Prop := ∃ v, x = .agg #[.int .i64 (r.at_ : Int), .bool r.signed, v] ∧ ((v = v0 ∧ r.open_ = ro) ∨ OwnL rbS w C v r.open_)
def RwX (x : Value) : Prop := ∃ (a : Int) (s : Bool) (A : Option Addr) (n c : Nat), x = .agg #[.int .i64 a, .bool s, .slice A n c]
def RwRet (r : Option Rw) (v0 : Value) (ro : List Bool) (w : World) (e : Ending) (w' : World) : Prop :=
  Below w.heap.size w w' ∧ ∃ x, e = .returned (.tuple #[x, .bool r.isSome]) ∧ RwX x ∧ ∀ r', r = some r' → RwO w' w.heap.size v0 ro x r'
end Go.Proofs.YtcomdkejpaoneaaDoor
end
section
namespace Go.Proofs.YtcomdkejpaoneaaDoor
open Go.RowKit
set_option maxRecDepth 100000
set_option maxHeartbeats 1000000
set_option linter.unusedSimpArgs false
set_option linter.unusedVariables false
structure CrAt (w : World) (B cb : Nat) (A : Option Addr) (cap : Nat) (row : List Lt) : Prop where
  cell : w.cell? ⟨cb, 0, none⟩ = some (.slice A row.length cap)
  rd : RdL ltS w B (.slice A row.length cap) row
  small : row.length ≤ 100
theorem is_any {w : World} {B cb : Nat} {A : Option Addr} {cap : Nat} {row : List Lt} (h : CrAt w B cb A cap row) (x k : Int) (t : Lt) (hx : 0 ≤ x) (ht : row[x.toNat]? = some t) :
    Calls Tryd.prog 66 #[.pointer (some ⟨cb, 0, none⟩), .int .i64 x, .int .i64 k] w fun e w' => e = .returned (.bool (t.kind == k)) ∧ w' = w := by
  obtain ⟨i, rfl⟩ : ∃ i : Nat, x = (i : Int) := ⟨x.toNat, by omega⟩
  rw [Int.toNat_natCast] at ht
  obtain ⟨hlt, e⟩ := List.getElem?_eq_some_iff.1 ht
  have hl := h.small
  have c0 := h.cell
  obtain ⟨a, rfl, hab, q0, -, -, -, -⟩ := at_lt h.rd hlt
  rw [e] at q0
  clear h ht e
  generalize t.kind = kd at *
  go_enter Tryd.func66, Tryd.ntmps66
  go_wp2
  go_ret
  exact ⟨rfl, rfl⟩
theorem cstar_any {w : World} {B cb : Nat} {A : Option Addr} {cap : Nat} {row : List Lt} (h : CrAt w B cb A cap row) (x : Int) (t : Lt) (hx : 0 ≤ x) (ht : row[x.toNat]? = some t) :
    Calls Tryd.prog 94 #[.pointer (some ⟨cb, 0, none⟩), .int .i64 x] w fun e w' => e = .returned (.bool (starT t)) ∧ w' = w := by
  have HIS := Lib.hid (is_any h x 2 t hx ht)
  obtain ⟨i, rfl⟩ : ∃ i : Nat, x = (i : Int) := ⟨x.toNat, by omega⟩
  rw [Int.toNat_natCast] at ht
  obtain ⟨hlt, e⟩ := List.getElem?_eq_some_iff.1 ht
  have hl := h.small
  have c0 := h.cell
  obtain ⟨a, rfl, hab, q0, q1, -, -, -⟩ := at_lt h.rd hlt
  rw [e] at q0 q1
  clear h ht e
  have hst := str_star t.text
  by_cases hk : t.kind = 2
  · have e2 : (t.kind == 2) = true := by simpa using hk
    by_cases ht : t.text = [42]
    · have HV := Lib.hid (show starT t = true from by unfold starT; rw [decide_eq_true hk, decide_eq_true ht]; rfl)
      rw [decide_eq_true ht] at hst
      clear hk ht
      generalize str t.text = s at *
      go_enter Tryd.func94, Tryd.ntmps94
      go_wp2_with fail
      refine HIS.out.mono ?_
      rintro e w' ⟨rfl, rfl⟩
      go_wp2
      go_ret
      refine ⟨?_, rfl⟩
      rw [HV.out]
      rfl
    · have HV := Lib.hid (show starT t = false from by unfold starT; rw [decide_eq_true hk, decide_eq_false ht]; rfl)
      rw [decide_eq_false ht] at hst
      clear hk ht
      generalize str t.text = s at *
      go_enter Tryd.func94, Tryd.ntmps94
      go_wp2_with fail
      refine HIS.out.mono ?_
      rintro e w' ⟨rfl, rfl⟩
      go_wp2
      go_ret
      refine ⟨?_, rfl⟩
      rw [HV.out]
      rfl
  · have e2 : (t.kind == 2) = false := by simpa using hk
    have HV := Lib.hid (show starT t = false from by unfold starT; rw [decide_eq_false hk, Bool.false_and])
    clear hk hst
    go_enter Tryd.func94, Tryd.ntmps94
    go_wp2_with fail
    refine HIS.out.mono ?_
    rintro e w' ⟨rfl, rfl⟩
    go_wp2
    go_ret
    refine ⟨?_, rfl⟩
    rw [HV.out]
    rfl
theorem side_kind (t : Lt) : sideT t = (t.kind == 1 || (t.kind == 3 || starT t)) := by
  have e1 : (t.kind == 1) = decide (t.kind = 1) := by by_cases h : t.kind = 1 <;> simp [h]
  have e3 : (t.kind == 3) = decide (t.kind = 3) := by by_cases h : t.kind = 3 <;> simp [h]
  unfold sideT
  rw [e1, e3, Bool.or_assoc]
theorem cside_any {w : World} {B cb : Nat} {A : Option Addr} {cap : Nat} {row : List Lt} (h : CrAt w B cb A cap row) (x : Int) (t : Lt) (hx : 0 ≤ x) (ht : row[x.toNat]? = some t) :
    Calls Tryd.prog 93 #[.pointer (some ⟨cb, 0, none⟩), .int .i64 x] w fun e w' => e = .returned (.bool (sideT t)) ∧ w' = w := by
  have HI1 := Lib.hid (is_any h x 1 t hx ht)
  have HI3 := Lib.hid (is_any h x 3 t hx ht)
  have HST := Lib.hid (cstar_any h x t hx ht)
  have HSD := Lib.hid (side_kind t)
  clear h ht
  generalize sideT t = sd at *
  generalize starT t = st at *
  cases h1 : t.kind == 1 <;> cases h3 : t.kind == 3
  all_goals
    rw [h1, h3] at HSD
    rw [h1] at HI1
    rw [h3] at HI3
    clear h1 h3
    go_enter Tryd.func93, Tryd.ntmps93
    go_wp2_with (first | (with_reducible refine HI1.out.mono ?_; rintro e w' ⟨rfl, rfl⟩) | (with_reducible refine HI3.out.mono ?_; rintro e w' ⟨rfl, rfl⟩) | (with_reducible refine HST.out.mono ?_; rintro e w' ⟨rfl, rfl⟩))
    go_ret
    exact ⟨by rw [HSD.out]; simp, rfl⟩
end Go.Proofs.YtcomdkejpaoneaaDoor
end
section
namespace Go.Proofs.YtcomdkejpaoneaaDoor
open Go.RowKit
set_option maxRecDepth 100000
set_option maxHeartbeats 4000000
set_option linter.unusedSimpArgs false
set_option linter.unusedVariables false
theorem leaves_1 {w : World} {B cb : Nat} {A : Option Addr} {cap : Nat} {row : List Lt} (h : CrAt w B cb A cap row) (i : Nat) (t : Lt) (g0 : row[i]? = some t) :
    Calls Tryd.prog 63 #[.pointer (some ⟨cb, 0, none⟩), .int .i64 (i : Int), .int .i64 ((i : Int) + 1)] w fun e w' => e = .returned (.int .i64 ((leafN [t] : Nat) : Int)) ∧ w' = w := by
  have hi : i ≤ 100 := by
    obtain ⟨hlt, _⟩ := List.getElem?_eq_some_iff.1 g0
    have := h.small; omega
  have HI1 := Lib.hid (is_any h (i : Int) 1 t (by omega) (by rw [show (i : Int).toNat = i from by omega]; exact g0))
  have HI2 := Lib.hid (is_any h (i : Int) 2 t (by omega) (by rw [show (i : Int).toNat = i from by omega]; exact g0))
  have HI3 := Lib.hid (is_any h (i : Int) 3 t (by omega) (by rw [show (i : Int).toNat = i from by omega]; exact g0))
  clear h g0
  by_cases h1 : t.kind = 1
  · have e1 : (t.kind == 1) = true := by simpa using h1
    have HV := Lib.hid (show leafN [t] = 1 from by simp [leafN, h1])
    clear h1
    go_enter Tryd.func63, Tryd.ntmps63
    go_wp2_with (first | (with_reducible refine HI1.out.mono ?_; rintro e w' ⟨rfl, rfl⟩))
    all_goals go_ret
    all_goals refine ⟨?_, rfl⟩
    all_goals rw [HV.out]
    all_goals rfl
  by_cases h2 : t.kind = 2
  · have e1 : (t.kind == 1) = false := by simpa using h1
    have e2 : (t.kind == 2) = true := by simpa using h2
    have HV := Lib.hid (show leafN [t] = 1 from by simp [leafN, h2])
    clear h1 h2
    go_enter Tryd.func63, Tryd.ntmps63
    go_wp2_with (first | (with_reducible refine HI1.out.mono ?_; rintro e w' ⟨rfl, rfl⟩) | (with_reducible refine HI2.out.mono ?_; rintro e w' ⟨rfl, rfl⟩))
    all_goals go_ret
    all_goals refine ⟨?_, rfl⟩
    all_goals rw [HV.out]
    all_goals rfl
  by_cases h3 : t.kind = 3
  · have e1 : (t.kind == 1) = false := by simpa using h1
    have e2 : (t.kind == 2) = false := by simpa using h2
    have e3 : (t.kind == 3) = true := by simpa using h3
    have HV := Lib.hid (show leafN [t] = 1 from by simp [leafN, h3])
    clear h1 h2 h3
    go_enter Tryd.func63, Tryd.ntmps63
    go_wp2_with (first | (with_reducible refine HI1.out.mono ?_; rintro e w' ⟨rfl, rfl⟩) | (with_reducible refine HI2.out.mono ?_; rintro e w' ⟨rfl, rfl⟩) | (with_reducible refine HI3.out.mono ?_; rintro e w' ⟨rfl, rfl⟩))
    all_goals go_ret
    all_goals refine ⟨?_, rfl⟩
    all_goals rw [HV.out]
    all_goals rfl
  have e1 : (t.kind == 1) = false := by simpa using h1
  have e2 : (t.kind == 2) = false := by simpa using h2
  have e3 : (t.kind == 3) = false := by simpa using h3
  have HV := Lib.hid (show leafN [t] = 0 from by simp [leafN, h1, h2, h3])
  clear h1 h2 h3
  go_enter Tryd.func63, Tryd.ntmps63
  go_wp2_with (first | (with_reducible refine HI1.out.mono ?_; rintro e w' ⟨rfl, rfl⟩) | (with_reducible refine HI2.out.mono ?_; rintro e w' ⟨rfl, rfl⟩) | (with_reducible refine HI3.out.mono ?_; rintro e w' ⟨rfl, rfl⟩))
  all_goals go_ret
  all_goals refine ⟨?_, rfl⟩
  all_goals rw [HV.out]
  all_goals rfl
theorem leaves_2 {w : World} {B cb : Nat} {A : Option Addr} {cap : Nat} {row : List Lt} (h : CrAt w B cb A cap row) (i : Nat) (t u : Lt) (g0 : row[i]? = some t) (g1 : row[i + 1]? = some u) :
    Calls Tryd.prog 63 #[.pointer (some ⟨cb, 0, none⟩), .int .i64 (i : Int), .int .i64 ((i : Int) + 2)] w fun e w' => e = .returned (.int .i64 ((leafN [t, u] : Nat) : Int)) ∧ w' = w := by
  have hi : i ≤ 100 := by
    obtain ⟨hlt, _⟩ := List.getElem?_eq_some_iff.1 g0
    have := h.small; omega
  have HI1 := Lib.hid (is_any h (i : Int) 1 t (by omega) (by rw [show (i : Int).toNat = i from by omega]; exact g0))
  have HI3 := Lib.hid (is_any h (i : Int) 3 t (by omega) (by rw [show (i : Int).toNat = i from by omega]; exact g0))
  have HU := Lib.hid (is_any h ((i : Int) + 1) 20 u (by omega) (by rw [show ((i : Int) + 1).toNat = i + 1 from by omega]; exact g1))
  have c0 := h.cell
  have hl := h.small
  obtain ⟨hlt, e⟩ := List.getElem?_eq_some_iff.1 g1
  obtain ⟨a, rfl, hab, -, -, q2, -, -⟩ := at_lt h.rd hlt
  rw [e] at q2
  clear h g0 g1 e
  by_cases h20 : u.kind = 20
  rotate_left
  · have eu : (u.kind == 20) = false := by simpa using h20
    have HV := Lib.hid (show leafN [t, u] = 0 from by simp [leafN, h20])
    clear h20
    cases e1 : t.kind == 1 <;> cases e3 : t.kind == 3
    all_goals
      go_enter Tryd.func63, Tryd.ntmps63
      go_wp2_with (first | (with_reducible refine HI1.out.mono ?_; rintro e w' ⟨rfl, rfl⟩) | (with_reducible refine HI3.out.mono ?_; rintro e w' ⟨rfl, rfl⟩) | (with_reducible refine HU.out.mono ?_; rintro e w' ⟨rfl, rfl⟩))
      all_goals go_ret
      all_goals refine ⟨?_, rfl⟩
      all_goals rw [HV.out]
      all_goals rfl
  have eu : (u.kind == 20) = true := by simpa using h20
  by_cases h1 : t.kind = 1
  · have e1 : (t.kind == 1) = true := by simpa using h1
    have e3 : (t.kind == 3) = false := by rw [h1]; decide
    by_cases m1 : u.n = -1
    · have d1 : (u.n == -1) = true := by simpa using m1
      have HV := Lib.hid (show leafN [t, u] = 1 from by simp [leafN, h1, h20, m1])
      clear h1 h20 m1
      go_enter Tryd.func63, Tryd.ntmps63
      go_wp2_with (first | (with_reducible refine HI1.out.mono ?_; rintro e w' ⟨rfl, rfl⟩) | (with_reducible refine HI3.out.mono ?_; rintro e w' ⟨rfl, rfl⟩) | (with_reducible refine HU.out.mono ?_; rintro e w' ⟨rfl, rfl⟩))
      all_goals go_ret
      all_goals refine ⟨?_, rfl⟩
      all_goals rw [HV.out]
      all_goals rfl
    by_cases m2 : u.n = 1
    · have d1 : (u.n == -1) = false := by simpa using m1
      have d2 : (u.n == 1) = true := by simpa using m2
      have HV := Lib.hid (show leafN [t, u] = 1 from by simp [leafN, h1, h20, m2])
      clear h1 h20 m1 m2
      go_enter Tryd.func63, Tryd.ntmps63
      go_wp2_with (first | (with_reducible refine HI1.out.mono ?_; rintro e w' ⟨rfl, rfl⟩) | (with_reducible refine HI3.out.mono ?_; rintro e w' ⟨rfl, rfl⟩) | (with_reducible refine HU.out.mono ?_; rintro e w' ⟨rfl, rfl⟩))
      all_goals go_ret
      all_goals refine ⟨?_, rfl⟩
      all_goals rw [HV.out]
      all_goals rfl
    by_cases m3 : u.n = 2
    · have d1 : (u.n == -1) = false := by simpa using m1
      have d2 : (u.n == 1) = false := by simpa using m2
      have d3 : (u.n == 2) = true := by simpa using m3
      have HV := Lib.hid (show leafN [t, u] = 1 from by simp [leafN, h1, h20, m3])
      clear h1 h20 m1 m2 m3
      go_enter Tryd.func63, Tryd.ntmps63
      go_wp2_with (first | (with_reducible refine HI1.out.mono ?_; rintro e w' ⟨rfl, rfl⟩) | (with_reducible refine HI3.out.mono ?_; rintro e w' ⟨rfl, rfl⟩) | (with_reducible refine HU.out.mono ?_; rintro e w' ⟨rfl, rfl⟩))
      all_goals go_ret
      all_goals refine ⟨?_, rfl⟩
      all_goals rw [HV.out]
      all_goals rfl
    have d1 : (u.n == -1) = false := by simpa using m1
    have d2 : (u.n == 1) = false := by simpa using m2
    have d3 : (u.n == 2) = false := by simpa using m3
    have HV := Lib.hid (show leafN [t, u] = 0 from by simp [leafN, h1, h20, m1, m2, m3])
    clear h1 h20 m1 m2 m3
    go_enter Tryd.func63, Tryd.ntmps63
    go_wp2_with (first | (with_reducible refine HI1.out.mono ?_; rintro e w' ⟨rfl, rfl⟩) | (with_reducible refine HI3.out.mono ?_; rintro e w' ⟨rfl, rfl⟩) | (with_reducible refine HU.out.mono ?_; rintro e w' ⟨rfl, rfl⟩))
    all_goals go_ret
    all_goals refine ⟨?_, rfl⟩
    all_goals rw [HV.out]
    all_goals rfl
  by_cases h3 : t.kind = 3
  · have e1 : (t.kind == 1) = false := by simpa using h1
    have e3 : (t.kind == 3) = true := by simpa using h3
    by_cases hn : 0 ≤ u.n
    · have dn : decide (u.n ≥ 0) = true := by simpa using hn
      have HV := Lib.hid (show leafN [t, u] = 1 from by simp [leafN, h3, h20, hn])
      clear h1 h20 h3
      go_enter Tryd.func63, Tryd.ntmps63
      go_wp2_with (first | (with_reducible refine HI1.out.mono ?_; rintro e w' ⟨rfl, rfl⟩) | (with_reducible refine HI3.out.mono ?_; rintro e w' ⟨rfl, rfl⟩) | (with_reducible refine HU.out.mono ?_; rintro e w' ⟨rfl, rfl⟩))
      all_goals go_ret
      all_goals refine ⟨?_, rfl⟩
      all_goals rw [HV.out]
      all_goals rfl
    have dn : decide (u.n ≥ 0) = false := by simpa using hn
    have HV := Lib.hid (show leafN [t, u] = 0 from by simp [leafN, h3, h20]; omega)
    clear h1 h20 h3
    go_enter Tryd.func63, Tryd.ntmps63
    go_wp2_with (first | (with_reducible refine HI1.out.mono ?_; rintro e w' ⟨rfl, rfl⟩) | (with_reducible refine HI3.out.mono ?_; rintro e w' ⟨rfl, rfl⟩) | (with_reducible refine HU.out.mono ?_; rintro e w' ⟨rfl, rfl⟩))
    all_goals go_ret
    all_goals refine ⟨?_, rfl⟩
    all_goals rw [HV.out]
    all_goals rfl
  have e1 : (t.kind == 1) = false := by simpa using h1
  have e3 : (t.kind == 3) = false := by simpa using h3
  have HV := Lib.hid (show leafN [t, u] = 0 from by simp [leafN, h1, h3])
  clear h1 h20 h3
  go_enter Tryd.func63, Tryd.ntmps63
  go_wp2_with (first | (with_reducible refine HI1.out.mono ?_; rintro e w' ⟨rfl, rfl⟩) | (with_reducible refine HI3.out.mono ?_; rintro e w' ⟨rfl, rfl⟩) | (with_reducible refine HU.out.mono ?_; rintro e w' ⟨rfl, rfl⟩))
  all_goals go_ret
  all_goals refine ⟨?_, rfl⟩
  all_goals rw [HV.out]
  all_goals rfl
theorem leaves_5 {w : World} {B cb : Nat} {A : Option Addr} {cap : Nat} {row : List Lt} (h : CrAt w B cb A cap row) (i : Nat) (t b c d e_ : Lt) (g0 : row[i]? = some t) (g1 : row[i + 1]? = some b) (g2 : row[i + 2]? = some c) (g3 : row[i + 3]? = some d) (g4 : row[i + 4]? = some e_) :
    Calls Tryd.prog 63 #[.pointer (some ⟨cb, 0, none⟩), .int .i64 (i : Int), .int .i64 ((i : Int) + 5)] w fun e w' => e = .returned (.int .i64 ((leafN [t, b, c, d, e_] : Nat) : Int)) ∧ w' = w := by
  have hi : i ≤ 100 := by
    obtain ⟨hlt, _⟩ := List.getElem?_eq_some_iff.1 g0
    have := h.small; omega
  have HA := Lib.hid (is_any h (i : Int) 10 t (by omega) (by rw [show (i : Int).toNat = i from by omega]; exact g0))
  have HB := Lib.hid (is_any h (i : Int) 12 t (by omega) (by rw [show (i : Int).toNat = i from by omega]; exact g0))
  have HC := Lib.hid (is_any h ((i : Int) + 4) 11 e_ (by omega) (by rw [show ((i : Int) + 4).toNat = i + 4 from by omega]; exact g4))
  have HD := Lib.hid (is_any h ((i : Int) + 4) 13 e_ (by omega) (by rw [show ((i : Int) + 4).toNat = i + 4 from by omega]; exact g4))
  have HS1 := Lib.hid (cside_any h ((i : Int) + 1) b (by omega) (by rw [show ((i : Int) + 1).toNat = i + 1 from by omega]; exact g1))
  have H7 := Lib.hid (is_any h ((i : Int) + 2) 7 c (by omega) (by rw [show ((i : Int) + 2).toNat = i + 2 from by omega]; exact g2))
  have HS3 := Lib.hid (cside_any h ((i : Int) + 3) d (by omega) (by rw [show ((i : Int) + 3).toNat = i + 3 from by omega]; exact g3))
  clear h g0 g1 g2 g3 g4
  have HL := Lib.hid (show leafN [t, b, c, d, e_] = if (t.kind = 10 ∨ t.kind = 12) ∧ (e_.kind = 11 ∨ e_.kind = 13) ∧ sideT b = true ∧ c.kind = 7 ∧ sideT d = true then 1 else 0 from rfl)
  generalize leafN [t, b, c, d, e_] = ln at *
  have ht : (t.kind = 10 ∧ (t.kind == 10) = true ∧ (t.kind == 12) = false) ∨ (t.kind = 12 ∧ (t.kind == 10) = false ∧ (t.kind == 12) = true) ∨ (¬ (t.kind = 10 ∨ t.kind = 12) ∧ (t.kind == 10) = false ∧ (t.kind == 12) = false) := by
    by_cases h : t.kind = 10
    · exact .inl ⟨h, by simpa using h, by rw [h]; decide⟩
    by_cases h2 : t.kind = 12
    · exact .inr (.inl ⟨h2, by simpa using h, by simpa using h2⟩)
    · exact .inr (.inr ⟨by omega, by simpa using h, by simpa using h2⟩)
  have he : (e_.kind = 11 ∧ (e_.kind == 11) = true ∧ (e_.kind == 13) = false) ∨ (e_.kind = 13 ∧ (e_.kind == 11) = false ∧ (e_.kind == 13) = true) ∨ (¬ (e_.kind = 11 ∨ e_.kind = 13) ∧ (e_.kind == 11) = false ∧ (e_.kind == 13) = false) := by
    by_cases h : e_.kind = 11
    · exact .inl ⟨h, by simpa using h, by rw [h]; decide⟩
    by_cases h2 : e_.kind = 13
    · exact .inr (.inl ⟨h2, by simpa using h, by simpa using h2⟩)
    · exact .inr (.inr ⟨by omega, by simpa using h, by simpa using h2⟩)
  have h7 : (c.kind = 7 ∧ (c.kind == 7) = true) ∨ (c.kind ≠ 7 ∧ (c.kind == 7) = false) := by
    by_cases h : c.kind = 7
    · exact .inl ⟨h, by simpa using h⟩
    · exact .inr ⟨h, by simpa using h⟩
  by_cases hb : ((t.kind = 10 ∨ t.kind = 12) ∧ (e_.kind = 11 ∨ e_.kind = 13))
  rotate_left
  · have HV := Lib.hid (show ln = 0 from by rw [HL.out]; exact if_neg (fun h => hb ⟨h.1, h.2.1⟩))
    clear h7 HL
    rcases ht with ⟨h1, a1, a2⟩ | ⟨h1, a1, a2⟩ | ⟨h1, a1, a2⟩ <;> rcases he with ⟨h2, b1, b2⟩ | ⟨h2, b1, b2⟩ | ⟨h2, b1, b2⟩
    all_goals
      first
      | (exfalso; exact hb ⟨by omega, by omega⟩)
      | skip
    all_goals
      clear h1 h2 hb
      go_enter Tryd.func63, Tryd.ntmps63
      go_wp2_with (first | (with_reducible refine HA.out.mono ?_; rintro e w' ⟨rfl, rfl⟩) | (with_reducible refine HB.out.mono ?_; rintro e w' ⟨rfl, rfl⟩) | (with_reducible refine HC.out.mono ?_; rintro e w' ⟨rfl, rfl⟩) | (with_reducible refine HD.out.mono ?_; rintro e w' ⟨rfl, rfl⟩) | (with_reducible refine HS1.out.mono ?_; rintro e w' ⟨rfl, rfl⟩) | (with_reducible refine H7.out.mono ?_; rintro e w' ⟨rfl, rfl⟩) | (with_reducible refine HS3.out.mono ?_; rintro e w' ⟨rfl, rfl⟩))
      all_goals go_ret
      all_goals refine ⟨?_, rfl⟩
      all_goals rw [HV.out]
      all_goals rfl
  rcases h7 with ⟨h7, c7⟩ | ⟨h7, c7⟩
  rotate_left
  · have HV := Lib.hid (show ln = 0 from by rw [HL.out]; exact if_neg (fun h => h7 h.2.2.2.1))
    clear HL h7
    cases hs : sideT b
    all_goals
      rw [hs] at HS1
      clear hs
      rcases ht with ⟨h1, a1, a2⟩ | ⟨h1, a1, a2⟩ | ⟨h1, a1, a2⟩ <;> rcases he with ⟨h2, b1, b2⟩ | ⟨h2, b1, b2⟩ | ⟨h2, b1, b2⟩
      all_goals
        first
        | (exfalso; omega)
        | skip
      all_goals
        clear h1 h2 hb
        go_enter Tryd.func63, Tryd.ntmps63
        go_wp2_with (first | (with_reducible refine HA.out.mono ?_; rintro e w' ⟨rfl, rfl⟩) | (with_reducible refine HB.out.mono ?_; rintro e w' ⟨rfl, rfl⟩) | (with_reducible refine HC.out.mono ?_; rintro e w' ⟨rfl, rfl⟩) | (with_reducible refine HD.out.mono ?_; rintro e w' ⟨rfl, rfl⟩) | (with_reducible refine HS1.out.mono ?_; rintro e w' ⟨rfl, rfl⟩) | (with_reducible refine H7.out.mono ?_; rintro e w' ⟨rfl, rfl⟩) | (with_reducible refine HS3.out.mono ?_; rintro e w' ⟨rfl, rfl⟩))
        all_goals go_ret
        all_goals refine ⟨?_, rfl⟩
        all_goals rw [HV.out]
        all_goals rfl
  cases hs : sideT b <;> cases hs3 : sideT d
  all_goals
    rw [hs] at HS1
    rw [hs3] at HS3
  all_goals
    have HV := Lib.hid (show ln = (if (sideT b && sideT d) = true then 1 else 0) from by
      rw [HL.out, hs, hs3]
      simp [hb, h7])
    rw [hs, hs3] at HV
    clear hs hs3 HL h7
    rcases ht with ⟨h1, a1, a2⟩ | ⟨h1, a1, a2⟩ | ⟨h1, a1, a2⟩ <;> rcases he with ⟨h2, b1, b2⟩ | ⟨h2, b1, b2⟩ | ⟨h2, b1, b2⟩
    all_goals
      first
      | (exfalso; omega)
      | skip
    all_goals
      clear h1 h2 hb
      go_enter Tryd.func63, Tryd.ntmps63
      go_wp2_with (first | (with_reducible refine HA.out.mono ?_; rintro e w' ⟨rfl, rfl⟩) | (with_reducible refine HB.out.mono ?_; rintro e w' ⟨rfl, rfl⟩) | (with_reducible refine HC.out.mono ?_; rintro e w' ⟨rfl, rfl⟩) | (with_reducible refine HD.out.mono ?_; rintro e w' ⟨rfl, rfl⟩) | (with_reducible refine HS1.out.mono ?_; rintro e w' ⟨rfl, rfl⟩) | (with_reducible refine H7.out.mono ?_; rintro e w' ⟨rfl, rfl⟩) | (with_reducible refine HS3.out.mono ?_; rintro e w' ⟨rfl, rfl⟩))
      all_goals go_ret
      all_goals refine ⟨?_, rfl⟩
      all_goals rw [HV.out]
      all_goals rfl
theorem leaves_0 {w : World} (cb : Nat) (i s : Nat) (hi : i ≤ 100) (hs : s ≤ 100) (h1 : s ≠ 1) (h2 : s ≠ 2) (h5 : s ≠ 5) :
    Calls Tryd.prog 63 #[.pointer (some ⟨cb, 0, none⟩), .int .i64 (i : Int), .int .i64 ((i : Int) + (s : Int))] w fun e w' => e = .returned (.int .i64 0) ∧ w' = w := by
  have e1 : ((s : Int) == 1) = false := by simp; omega
  have e2 : ((s : Int) == 2) = false := by simp; omega
  have e5 : ((s : Int) == 5) = false := by simp; omega
  clear h1 h2 h5
  go_enter Tryd.func63, Tryd.ntmps63
  go_wp2
  go_ret
  exact ⟨rfl, rfl⟩
end Go.Proofs.YtcomdkejpaoneaaDoor
end
