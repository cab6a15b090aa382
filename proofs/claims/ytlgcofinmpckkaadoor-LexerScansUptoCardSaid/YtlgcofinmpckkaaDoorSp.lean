/- Layer 13, plainly: what Scan answers. No program in sight. -/
import Derived.Test.YtlgcofinmpckkaaDoorLp
namespace Go.Proofs.YtlgcofinmpckkaaDoor
open Go.RowKit
set_option maxRecDepth 100000

theorem all_bytes' {p : UInt8 → Bool} (h : (List.range 256).all (fun n => p (UInt8.ofNat n)) = true) (c : UInt8) : p c = true := by
  rw [List.all_eq_true] at h
  have := h c.toNat (by rw [List.mem_range]; exact c.toNat_lt)
  rwa [UInt8.ofNat_toNat] at this
def isDg (c : UInt8) : Bool := decide (48 ≤ c.toNat ∧ c.toNat ≤ 57)
def digs (l : List UInt8) : List UInt8 := l.takeWhile isDg
def ncap (l : List UInt8) : Nat := l.foldl (fun v c => min (10 * v + (c.toNat - 48)) 1000000000) 0
theorem ncap_snoc (l : List UInt8) (c : UInt8) : ncap (l ++ [c]) = min (10 * ncap l + (c.toNat - 48)) 1000000000 := by simp [ncap]
theorem ncap_le (l : List UInt8) : ncap l ≤ 1000000000 := by
  induction l using snoc_ind with
  | h0 => simp [ncap]
  | h1 l c _ => rw [ncap_snoc]; omega
def numOkB (l : List UInt8) : Bool := decide (0 < (digs l).length ∧ ncap (digs l) ≤ 999999999)

/-- A token: its kind, text and number, and how many bytes it takes. -/
structure Tk where
  kind : Int
  text : List UInt8
  n : Int
  len : Nat
/-- The same at its place. -/
structure Lx where
  kind : Int
  text : List UInt8
  n : Int
  at_ : Nat
  end_ : Nat
def Tk.lx (k : Tk) (i : Nat) : Lx := ⟨k.kind, k.text, k.n, i, i + k.len⟩

def singleK (c : UInt8) : Int :=
  if c = 40 then 8 else if c = 41 then 9 else if c = 91 then 10 else if c = 93 then 11 else if c = 123 then 12 else if c = 125 then 13
  else if c = 58 then 14 else if c = 43 then 15 else if c = 45 then 16 else if c = 124 then 17 else 0

/-- behind the first mark: the text, and the bytes with the second mark -/
def quotedL : List UInt8 → Option (List UInt8 × Nat)
  | [] => none
  | [c] => if c = 34 then some ([], 1) else none
  | c :: d :: t => if c = 34 then some ([], 1) else if c = 92 then (quotedL t).map (fun x => (d :: x.1, x.2 + 2)) else (quotedL (d :: t)).map (fun x => (c :: x.1, x.2 + 1))

/-- a letter of a pattern -/
def pe (d : UInt8) : List UInt8 := if cls d = 3 ∨ cls d = 4 then [92, d] else [d]
/-- What a run has come to: its text, its pattern, its wilds, its bytes. -/
structure Rn where
  text : List UInt8
  pat : List UInt8
  wilds : Nat
  len : Nat
def Rn.add (a b : Rn) : Rn := ⟨a.text ++ b.text, a.pat ++ b.pat, a.wilds + b.wilds, a.len + b.len⟩
def runL : List UInt8 → Option Rn
  | [] => some ⟨[], [], 0, 0⟩
  | [c] => if cls c = 1 ∨ cls c = 2 then some ⟨[], [], 0, 0⟩ else if cls c = 3 then some ⟨[], [c], 1, 1⟩ else if cls c = 4 then none else some ⟨[c], [c], 0, 1⟩
  | c :: d :: t => if cls c = 1 ∨ cls c = 2 then some ⟨[], [], 0, 0⟩ else if cls c = 3 then (runL (d :: t)).map (Rn.add ⟨[], [c], 1, 1⟩)
      else if cls c = 4 then (runL t).map (Rn.add ⟨[d], pe d, 0, 2⟩) else (runL (d :: t)).map (Rn.add ⟨[c], [c], 0, 1⟩)

/-- a number behind m bytes -/
def numTk (kind : Int) (l : List UInt8) (m : Nat) : Option Tk := if numOkB l then some ⟨kind, [], ncap (digs l), m + (digs l).length⟩ else none
def runTk (l : List UInt8) : Option Tk := (runL l).map fun r => if 0 < r.wilds then ⟨2, r.pat, 0, r.len⟩ else ⟨kwd (l.take r.len), if kwd (l.take r.len) = 1 then r.text else [], 0, r.len⟩
def tokOf : List UInt8 → Option Tk
  | [] => none
  | c :: t =>
    if singleK c ≠ 0 then some ⟨singleK c, [], 0, 1⟩
    else if c = 34 then (quotedL t).map fun x => ⟨3, x.1, 0, x.2 + 1⟩
    else if c = 94 then (if t.head? = some 61 then numTk 19 (t.drop 1) 2 else numTk 18 t 1)
    else if c = 126 then (if digs t = [] then some ⟨20, [], -1, 1⟩ else numTk 20 t 1)
    else if c = 64 then numTk 21 t 1
    else runTk (c :: t)

/-- tokens ahead of what follows -/
def ahead (pre : List Lx) (r : List Lx × Option Nat) : List Lx × Option Nat := match r.2 with | none => (pre ++ r.1, none) | some p => ([], some p)
theorem ahead_nil (r : List Lx × Option Nat) (h : r.2 = none ∨ r.1 = []) : ahead [] r = r := by
  obtain ⟨a, b⟩ := r
  cases b with
  | none => simp [ahead]
  | some p => rcases h with h | h; cases h; simp at h; subst h; rfl
theorem ahead_ahead (a b : List Lx) (r : List Lx × Option Nat) : ahead a (ahead b r) = ahead (a ++ b) r := by
  obtain ⟨x, y⟩ := r
  cases y <;> simp [ahead]
def scanF : Nat → List UInt8 → Nat → List Lx × Option Nat
  | 0, _, i => ([], some i)
  | _ + 1, [], i => ([⟨0, [], 0, i, i⟩], none)
  | f + 1, c :: t, i => if cls c = 1 then scanF f t (i + 1) else match tokOf (c :: t) with
    | none => ([], some i)
    | some k => ahead [k.lx i] (scanF f ((c :: t).drop k.len) (i + k.len))
def scanL (q : List UInt8) : List Lx × Option Nat := scanF (q.length + 1) q 0

theorem cls_mark {c : UInt8} (h : singleK c = 0) (h1 : c ≠ 34) (h2 : c ≠ 94) (h3 : c ≠ 126) (h4 : c ≠ 64) : cls c ≠ 2 := by
  have := all_bytes' (p := fun c => decide (singleK c = 0 → c ≠ 34 → c ≠ 94 → c ≠ 126 → c ≠ 64 → cls c ≠ 2)) (by decide +kernel) c
  exact of_decide_eq_true this h h1 h2 h3 h4
theorem digs_length (l : List UInt8) : (digs l).length ≤ l.length := by
  induction l with
  | nil => simp [digs]
  | cons c l ih => unfold digs at *; rw [List.takeWhile_cons]; split <;> simp; omega
theorem numTk_len {kind : Int} {l : List UInt8} {m : Nat} {k : Tk} (h : numTk kind l m = some k) : m + 1 ≤ k.len ∧ k.len ≤ m + l.length := by
  unfold numTk at h
  split at h
  · rename_i hn
    cases h
    have := of_decide_eq_true hn
    have := digs_length l
    show m + 1 ≤ m + (digs l).length ∧ m + (digs l).length ≤ m + l.length
    omega
  · cases h
theorem quotedL_len : ∀ (l : List UInt8) (x : List UInt8 × Nat), quotedL l = some x → 1 ≤ x.2 ∧ x.2 ≤ l.length
  | [], x, h => by simp [quotedL] at h
  | [c], x, h => by
    unfold quotedL at h
    split at h
    · cases h; simp
    · cases h
  | c :: d :: t, x, h => by
    unfold quotedL at h
    split at h
    · cases h; simp
    · split at h
      · obtain ⟨y, hy, rfl⟩ := Option.map_eq_some_iff.1 h
        have := quotedL_len t y hy
        simp; omega
      · obtain ⟨y, hy, rfl⟩ := Option.map_eq_some_iff.1 h
        have := quotedL_len (d :: t) y hy
        simp at this ⊢; omega
theorem runL_len : ∀ (l : List UInt8) (r : Rn), runL l = some r → r.len ≤ l.length
  | [], r, h => by simp [runL] at h; subst h; simp
  | [c], r, h => by
    unfold runL at h
    repeat' split at h
    all_goals first | (cases h; done) | (cases h; simp)
  | c :: d :: t, r, h => by
    unfold runL at h
    split at h
    · cases h; simp
    · split at h
      · obtain ⟨y, hy, rfl⟩ := Option.map_eq_some_iff.1 h
        have := runL_len (d :: t) y hy
        simp [Rn.add] at this ⊢; omega
      · split at h
        · obtain ⟨y, hy, rfl⟩ := Option.map_eq_some_iff.1 h
          have := runL_len t y hy
          simp [Rn.add]; omega
        · obtain ⟨y, hy, rfl⟩ := Option.map_eq_some_iff.1 h
          have := runL_len (d :: t) y hy
          simp [Rn.add] at this ⊢; omega
theorem runL_pos {c : UInt8} {t : List UInt8} {r : Rn} (h : runL (c :: t) = some r) (h1 : cls c ≠ 1) (h2 : cls c ≠ 2) : 1 ≤ r.len := by
  cases t with
  | nil =>
    unfold runL at h
    rw [if_neg (by omega)] at h
    repeat' split at h
    all_goals first | (cases h; done) | (cases h; simp)
  | cons d t =>
    unfold runL at h
    rw [if_neg (by omega)] at h
    repeat' split at h
    all_goals
      obtain ⟨y, hy, rfl⟩ := Option.map_eq_some_iff.1 h
      simp only [Rn.add]; omega
theorem tok_len {l : List UInt8} {k : Tk} (h : tokOf l = some k) (hb : ∀ c, l.head? = some c → cls c ≠ 1) : 1 ≤ k.len ∧ k.len ≤ l.length := by
  cases l with
  | nil => cases h
  | cons c t =>
    have hc := hb c rfl
    simp only [tokOf] at h
    split at h
    · cases h; simp
    · rename_i hs
      split at h
      · obtain ⟨y, hy, rfl⟩ := Option.map_eq_some_iff.1 h
        have := quotedL_len t y hy
        simp; omega
      · split at h
        · split at h
          · rename_i h61
            have := numTk_len h
            have h1 : 1 ≤ t.length := by cases t; simp at h61; simp
            simp at this ⊢; omega
          · have := numTk_len h
            simp; omega
        · split at h
          · split at h
            · cases h; simp
            · have := numTk_len h
              simp; omega
          · split at h
            · have := numTk_len h
              simp; omega
            · rename_i g1 g2 g3 g4
              unfold runTk at h
              obtain ⟨y, hy, rfl⟩ := Option.map_eq_some_iff.1 h
              have a1 := runL_pos hy hc (cls_mark (by simpa using hs) g1 g2 g3 g4)
              have a2 := runL_len _ y hy
              split <;> exact ⟨a1, a2⟩
end Go.Proofs.YtlgcofinmpckkaaDoor
