/- Layer 20, plainly: programs and their listings. -/
import Derived.Test.YtmdpfikalekmlaaGreatDoorIp
import Derived.Test.YtmdpfikalekmlaaGreatDoorFu
namespace Go.Proofs.YtmdpfikalekmlaaGreatDoor
open Go.RowKit
set_option maxRecDepth 100000
set_option linter.unusedSimpArgs false
set_option linter.unusedVariables false

structure Lf where
  field : Int
  term : List UInt8
deriving DecidableEq
structure Nr where
  slop : Int
  cur : List Int
  off : List Int
deriving DecidableEq
structure Pg where
  avgs : List Int
  curs : List Lf
  nears : List Nr
  all : Bool
  drive : List Int
  code : List UInt8
deriving DecidableEq
def neg (l : List Int) : Bool := l.any fun x => decide (x < 0)
/-- A byte that stands for itself in quotes. -/
def plainC (b : UInt8) : Bool := decide (32 ≤ b.toNat) && decide (b.toNat ≤ 126) && decide (b ≠ 34) && decide (b ≠ 92)
def hexC (n : Nat) : UInt8 := UInt8.ofNat (if n < 10 then 48 + n else 87 + n)
def quoC (b : UInt8) : List UInt8 := if plainC b = true then [b] else [92, hexC (b.toNat / 16), hexC (b.toNat % 16)]
def quoL (t : List UInt8) : List UInt8 := 34 :: (t.flatMap quoC ++ [34])
def numC (x : Int) : List UInt8 := dgt x.toNat
def lineL (w : List UInt8) (l : List Int) : List UInt8 := w ++ l.flatMap fun x => 32 :: numC x
def curL (c : Lf) : List UInt8 := lineL [99, 117, 114, 115, 111, 114] [c.field] ++ [32] ++ quoL c.term
def pairL (x : Int × Int) : List UInt8 := [32] ++ numC x.1 ++ [43] ++ numC x.2
def nearL (n : Nr) : List UInt8 := lineL [110, 101, 97, 114] [n.slop] ++ (n.cur.zip n.off).flatMap pairL
def insL (x : Ins) : List UInt8 := opName x.op.toNat ++ (if 0 < opArgs x.op.toNat then 32 :: dgt x.a else []) ++ (if 1 < opArgs x.op.toNat then 32 :: dgt x.b else [])
/-- Can it be listed, but for its code? -/
def okN (n : Nr) : Bool := decide (0 ≤ n.slop) && !neg n.cur && !neg n.off && decide (n.cur.length = n.off.length)
def okP (p : Pg) : Bool := !neg p.avgs && !neg p.drive && p.curs.all (fun c => decide (0 ≤ c.field)) && p.nears.all okN
/-- The lines, but for the instructions'. -/
def headL (p : Pg) : List (List UInt8) := [lineL [97, 118, 103, 115] p.avgs] ++ p.curs.map curL ++ p.nears.map nearL ++ (if p.all = true then [[101, 118, 101, 114, 121]] else []) ++ (if p.drive ≠ [] then [lineL [100, 114, 105, 118, 101] p.drive] else [])
def linesL (p : Pg) (code : List Ins) : List (List UInt8) := headL p ++ code.map insL
def unl (l : List (List UInt8)) : List UInt8 := l.flatMap fun x => x ++ [10]
/-- The listing. -/
def textP (p : Pg) : Option (List UInt8) := match decI p.code with
  | some code => if okP p = true then some (unl (linesL p code)) else none
  | none => none
theorem numC_len (x : Int) (h : x ≤ 9223372036854775807) : (numC x).length ≤ 20 := by
  have : x.toNat < 18446744073709551616 := by omega
  unfold numC dgt
  rw [Lib.decDigits_length]
  rcases Nat.eq_zero_or_pos x.toNat with h0 | h0
  · rw [h0, Lib.nDigits]; decide
  · have h1 := Lib.numDigits_eq x.toNat h0 this
    split at h1 <;> omega
theorem dgt_len (x : Nat) (h : x < 18446744073709551616) : (dgt x).length ≤ 20 := by
  unfold dgt
  rw [Lib.decDigits_length]
  rcases Nat.eq_zero_or_pos x with h0 | h0
  · rw [h0, Lib.nDigits]; decide
  · have h1 := Lib.numDigits_eq x h0 h
    split at h1 <;> omega
theorem lineL_snoc (w : List UInt8) (l : List Int) (x : Int) : lineL w (l ++ [x]) = lineL w l ++ (32 :: numC x) := by simp [lineL]
theorem lineL_len (w : List UInt8) (l : List Int) (h : ∀ x ∈ l, x ≤ 9223372036854775807) : (lineL w l).length ≤ w.length + 21 * l.length := by
  unfold lineL
  rw [List.length_append]
  induction l with
  | nil => simp
  | cons x l ih =>
    rw [List.flatMap_cons, List.length_append, List.length_cons, List.length_cons]
    have h1 := numC_len x (h x List.mem_cons_self)
    have h2 := ih (fun y hy => h y (List.mem_cons_of_mem _ hy))
    omega
theorem quoC_len (b : UInt8) : (quoC b).length ≤ 3 := by unfold quoC; split <;> simp
theorem quoF_len (t : List UInt8) : (t.flatMap quoC).length ≤ 3 * t.length := by
  induction t with
  | nil => simp
  | cons b t ih => rw [List.flatMap_cons, List.length_append, List.length_cons]; have := quoC_len b; omega
theorem quoL_len (t : List UInt8) : (quoL t).length ≤ 3 * t.length + 2 := by
  unfold quoL; have := quoF_len t; simp only [List.length_append, List.length_cons, List.length_nil]; omega
theorem neg_take {l : List Int} {k : Nat} (hk : k < l.length) : neg (l.take (k + 1)) = (neg (l.take k) || decide (l[k] < 0)) := by
  unfold neg; rw [List.take_succ_eq_append_getElem hk, List.any_append]; simp
theorem neg_false {l : List Int} (h : neg l = false) : ∀ x ∈ l, 0 ≤ x := by
  intro x hx
  unfold neg at h
  rw [List.any_eq_false] at h
  have := h x hx
  simpa using this
theorem unl_join (l : List (List UInt8)) (h : l ≠ []) : Lib.join l [10] ++ [10] = unl l := by
  induction l with
  | nil => exact absurd rfl h
  | cons x l ih =>
    cases l with
    | nil => simp [Lib.join, unl]
    | cons y l =>
      have := ih (by simp)
      rw [unl, List.flatMap_cons, ← unl, ← this]
      simp [Lib.join]
end Go.Proofs.YtmdpfikalekmlaaGreatDoor
