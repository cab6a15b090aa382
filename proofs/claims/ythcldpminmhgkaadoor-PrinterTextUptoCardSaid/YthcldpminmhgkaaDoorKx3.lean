/- Merged for a claim by shake.py: Lp Sp Lk Sn Lr Sq -/
import Derived.Test.YthcldpminmhgkaaDoorKxA
import Derived.Lib.SlBytesConst
import Derived.Test.YthcldpminmhgkaaDoorKx1
set_option maxRecDepth 100000
set_option maxHeartbeats 1000000
section
namespace Go.Proofs.YthcldpminmhgkaaDoor
open Go.RowKit
def clsTab : List Int := (List.range 128).map fun j =>
 if j = 32 ∨ j = 9 ∨ j = 10 ∨ j = 13 then 1
 else if j = 40 ∨ j = 41 ∨ j = 91 ∨ j = 93 ∨ j = 123 ∨ j = 125 ∨ j = 58 ∨ j = 124 ∨ j = 94 ∨ j = 126 ∨ j = 64 ∨ j = 34 then 2
 else if j = 42 ∨ j = 63 then 3 else if j = 92 then 4 else 0
def cls (b : UInt8) : Int := if b.toNat < 128 then clsTab.getD b.toNat 0 else 0
def kwd (l : List UInt8) : Int := if l = [65, 78, 68] then 4 else if l = [79, 82] then 5 else if l = [78, 79, 84] then 6 else if l = [84, 79] then 7 else 1
def esc (first : Bool) (c : UInt8) : List UInt8 := if cls c ≠ 0 ∨ (first = true ∧ (c = 43 ∨ c = 45)) then [92, c] else [c]
def lettersTo (first : Bool) (l : List UInt8) : Nat → List UInt8
 | 0 => []
 | k + 1 => lettersTo first l k ++ esc (first && k == 0) (l.getD k 0)
def lettersL (first : Bool) (l : List UInt8) : List UInt8 := lettersTo first l l.length
def wordL (l : List UInt8) : List UInt8 := if kwd l ≠ 1 then 92 :: l else lettersL true l
def qesc (c : UInt8) : List UInt8 := if c = 34 ∨ c = 92 then [92, c] else [c]
def quoteTo (l : List UInt8) : Nat → List UInt8
 | 0 => [34]
 | k + 1 => quoteTo l k ++ qesc (l.getD k 0)
def quoteL (l : List UInt8) : List UInt8 := quoteTo l l.length ++ [34]
theorem getD_byte (s : ByteArray) (k : Nat) (h : k < s.size) : s.data.toList.getD k 0 = s[k] := by
 rw [List.getD_eq_getElem?_getD, List.getElem?_eq_getElem (by rw [← ba_size]; exact h)]; rfl
theorem esc_length (f : Bool) (c : UInt8) : (esc f c).length ≤ 2 := by unfold esc; split <;> simp
theorem lettersTo_length (f : Bool) (l : List UInt8) (k : Nat) : (lettersTo f l k).length ≤ 2 * k := by
 induction k with
 | zero => simp [lettersTo]
 | succ k ih => rw [lettersTo, List.length_append]; have := esc_length (f && k == 0) (l.getD k 0); omega
theorem quoteTo_length (l : List UInt8) (k : Nat) : (quoteTo l k).length ≤ 2 * k + 1 := by
 induction k with
 | zero => simp [quoteTo]
 | succ k ih =>
  rw [quoteTo, List.length_append]
  have : (qesc (l.getD k 0)).length ≤ 2 := by unfold qesc; split <;> simp
  omega
theorem kwd_toList (s : ByteArray) : (s.toList == [65, 78, 68]) = decide (s.data.toList = [65, 78, 68]) ∧ (s.toList == [79, 82]) = decide (s.data.toList = [79, 82]) ∧ (s.toList == [78, 79, 84]) = decide (s.data.toList = [78, 79, 84]) ∧ (s.toList == [84, 79]) = decide (s.data.toList = [84, 79]) := by
 rw [ba_toList]
 refine ⟨?_, ?_, ?_, ?_⟩ <;> (rw [Bool.eq_iff_iff]; simp)
theorem all_bytes' {p : UInt8 → Bool} (h : (List.range 256).all (fun n => p (UInt8.ofNat n)) = true) (c : UInt8) : p c = true := by
 rw [List.all_eq_true] at h
 have := h c.toNat (by rw [List.mem_range]; exact c.toNat_lt)
 rwa [UInt8.ofNat_toNat] at this
def isDg (c : UInt8) : Bool := decide (48 ≤ c.toNat ∧ c.toNat ≤ 57)
def digs (l : List UInt8) : List UInt8 := l.takeWhile isDg
def ncap (l : List UInt8) : Nat := l.foldl (fun v c => min (10 * v + (c.toNat - 48)) 1000000000) 0
theorem ncap_snoc (l : List UInt8) (c : UInt8) : ncap (l ++ [c]) = min (10 * ncap l + (c.toNat - 48)) 1000000000 := by simp [ncap]
theorem ncap_le (l : List UInt8) : ncap l ≤ 1000000000 := by
 induction l using snoc_ind with
 | h0 => simp [ncap]
 | h1 l c _ => rw [ncap_snoc]; omega
def numOkB (l : List UInt8) : Bool := decide (0 < (digs l).length ∧ ncap (digs l) ≤ 999999999)
structure Tk where
 kind : Int
 text : List UInt8
 n : Int
 len : Nat
structure Lx where
 kind : Int
 text : List UInt8
 n : Int
 at_ : Nat
 end_ : Nat
def Tk.lx (k : Tk) (i : Nat) : Lx := ⟨k.kind, k.text, k.n, i, i + k.len⟩
def singleK (c : UInt8) : Int :=
 if c = 40 then 8 else if c = 41 then 9 else if c = 91 then 10 else if c = 93 then 11 else if c = 123 then 12 else if c = 125 then 13
 else if c = 58 then 14 else if c = 43 then 15 else if c = 45 then 16 else if c = 124 then 17 else 0
def quotedL : List UInt8 → Option (List UInt8 × Nat)
 | [] => none
 | [c] => if c = 34 then some ([], 1) else none
 | c :: d :: t => if c = 34 then some ([], 1) else if c = 92 then (quotedL t).map (fun x => (d :: x.1, x.2 + 2)) else (quotedL (d :: t)).map (fun x => (c :: x.1, x.2 + 1))
def pe (d : UInt8) : List UInt8 := if cls d = 3 ∨ cls d = 4 then [92, d] else [d]
structure Rn where
 text : List UInt8
 pat : List UInt8
 wilds : Nat
 len : Nat
def Rn.add (a b : Rn) : Rn := ⟨a.text ++ b.text, a.pat ++ b.pat, a.wilds + b.wilds, a.len + b.len⟩
def runL : List UInt8 → Option Rn
 | [] => some ⟨[], [], 0, 0⟩
 | [c] => if cls c = 1 ∨ cls c = 2 then some ⟨[], [], 0, 0⟩ else if cls c = 3 then some ⟨[], [c], 1, 1⟩ else if cls c = 4 then none else some ⟨[c], [c], 0, 1⟩
 | c :: d :: t => if cls c = 1 ∨ cls c = 2 then some ⟨[], [], 0, 0⟩ else if cls c = 3 then (runL (d :: t)).map (Rn.add ⟨[], [c], 1, 1⟩)
   else if cls c = 4 then (runL t).map (Rn.add ⟨[d], pe d, 0, 2⟩) else (runL (d :: t)).map (Rn.add ⟨[c], [c], 0, 1⟩)
def numTk (kind : Int) (l : List UInt8) (m : Nat) : Option Tk := if numOkB l then some ⟨kind, [], ncap (digs l), m + (digs l).length⟩ else none
def runTk (l : List UInt8) : Option Tk := (runL l).map fun r => if 0 < r.wilds then ⟨2, r.pat, 0, r.len⟩ else ⟨kwd (l.take r.len), if kwd (l.take r.len) = 1 then r.text else [], 0, r.len⟩
def tokOf : List UInt8 → Option Tk
 | [] => none
 | c :: t =>
  if singleK c ≠ 0 then some ⟨singleK c, [], 0, 1⟩
  else if c = 34 then (quotedL t).map fun x => ⟨3, x.1, 0, x.2 + 1⟩
  else if c = 94 then (if t.head? = some 61 then numTk 19 (t.drop 1) 2 else numTk 18 t 1)
  else if c = 126 then (if digs t = [] then some ⟨20, [], -1, 1⟩ else numTk 20 t 1)
  else if c = 64 then numTk 21 t 1
  else runTk (c :: t)
def ahead (pre : List Lx) (r : List Lx × Option Nat) : List Lx × Option Nat := match r.2 with | none => (pre ++ r.1, none) | some p => ([], some p)
theorem ahead_nil (r : List Lx × Option Nat) (h : r.2 = none ∨ r.1 = []) : ahead [] r = r := by
 obtain ⟨a, b⟩ := r
 cases b with
 | none => simp [ahead]
 | some p => rcases h with h | h; cases h; simp at h; subst h; rfl
theorem ahead_ahead (a b : List Lx) (r : List Lx × Option Nat) : ahead a (ahead b r) = ahead (a ++ b) r := by
 obtain ⟨x, y⟩ := r
 cases y <;> simp [ahead]
def scanF : Nat → List UInt8 → Nat → List Lx × Option Nat
 | 0, _, i => ([], some i)
 | _ + 1, [], i => ([⟨0, [], 0, i, i⟩], none)
 | f + 1, c :: t, i => if cls c = 1 then scanF f t (i + 1) else match tokOf (c :: t) with
  | none => ([], some i)
  | some k => ahead [k.lx i] (scanF f ((c :: t).drop k.len) (i + k.len))
def scanL (q : List UInt8) : List Lx × Option Nat := scanF (q.length + 1) q 0
theorem cls_mark {c : UInt8} (h : singleK c = 0) (h1 : c ≠ 34) (h2 : c ≠ 94) (h3 : c ≠ 126) (h4 : c ≠ 64) : cls c ≠ 2 := by
 have := all_bytes' (p := fun c => decide (singleK c = 0 → c ≠ 34 → c ≠ 94 → c ≠ 126 → c ≠ 64 → cls c ≠ 2)) (by decide +kernel) c
 exact of_decide_eq_true this h h1 h2 h3 h4
theorem digs_length (l : List UInt8) : (digs l).length ≤ l.length := by
 induction l with
 | nil => simp [digs]
 | cons c l ih => unfold digs at *; rw [List.takeWhile_cons]; split <;> simp; omega
theorem numTk_len {kind : Int} {l : List UInt8} {m : Nat} {k : Tk} (h : numTk kind l m = some k) : m + 1 ≤ k.len ∧ k.len ≤ m + l.length := by
 unfold numTk at h
 split at h
 ·rename_i hn
  cases h
  have := of_decide_eq_true hn
  have := digs_length l
  show m + 1 ≤ m + (digs l).length ∧ m + (digs l).length ≤ m + l.length
  omega
 ·cases h
theorem quotedL_len : ∀ (l : List UInt8) (x : List UInt8 × Nat), quotedL l = some x → 1 ≤ x.2 ∧ x.2 ≤ l.length
 | [], x, h => by simp [quotedL] at h
 | [c], x, h => by
  unfold quotedL at h
  split at h
  ·cases h; simp
  ·cases h
 | c :: d :: t, x, h => by
  unfold quotedL at h
  split at h
  ·cases h; simp
  ·split at h
   ·obtain ⟨y, hy, rfl⟩ := Option.map_eq_some_iff.1 h
    have := quotedL_len t y hy
    simp; omega
   ·obtain ⟨y, hy, rfl⟩ := Option.map_eq_some_iff.1 h
    have := quotedL_len (d :: t) y hy
    simp at this ⊢; omega
theorem runL_len : ∀ (l : List UInt8) (r : Rn), runL l = some r → r.len ≤ l.length
 | [], r, h => by simp [runL] at h; subst h; simp
 | [c], r, h => by
  unfold runL at h
  repeat' split at h
  all_goals first | (cases h; done) | (cases h; simp)
 | c :: d :: t, r, h => by
  unfold runL at h
  split at h
  ·cases h; simp
  ·split at h
   ·obtain ⟨y, hy, rfl⟩ := Option.map_eq_some_iff.1 h
    have := runL_len (d :: t) y hy
    simp [Rn.add] at this ⊢; omega
   ·split at h
    ·obtain ⟨y, hy, rfl⟩ := Option.map_eq_some_iff.1 h
     have := runL_len t y hy
     simp [Rn.add]; omega
    ·obtain ⟨y, hy, rfl⟩ := Option.map_eq_some_iff.1 h
     have := runL_len (d :: t) y hy
     simp [Rn.add] at this ⊢; omega
theorem runL_pos {c : UInt8} {t : List UInt8} {r : Rn} (h : runL (c :: t) = some r) (h1 : cls c ≠ 1) (h2 : cls c ≠ 2) : 1 ≤ r.len := by
 cases t with
 | nil =>
  unfold runL at h
  rw [if_neg (by omega)] at h
  repeat' split at h
  all_goals first | (cases h; done) | (cases h; simp)
 | cons d t =>
  unfold runL at h
  rw [if_neg (by omega)] at h
  repeat' split at h
  all_goals
   obtain ⟨y, hy, rfl⟩ := Option.map_eq_some_iff.1 h
   simp only [Rn.add]; omega
theorem tok_len {l : List UInt8} {k : Tk} (h : tokOf l = some k) (hb : ∀ c, l.head? = some c → cls c ≠ 1) : 1 ≤ k.len ∧ k.len ≤ l.length := by
 cases l with
 | nil => cases h
 | cons c t =>
  have hc := hb c rfl
  simp only [tokOf] at h
  split at h
  ·cases h; simp
  ·rename_i hs
   split at h
   ·obtain ⟨y, hy, rfl⟩ := Option.map_eq_some_iff.1 h
    have := quotedL_len t y hy
    simp; omega
   ·split at h
    ·split at h
     ·rename_i h61
      have := numTk_len h
      have h1 : 1 ≤ t.length := by cases t; simp at h61; simp
      simp at this ⊢; omega
     ·have := numTk_len h
      simp; omega
    ·split at h
     ·split at h
      ·cases h; simp
      ·have := numTk_len h
       simp; omega
     ·split at h
      ·have := numTk_len h
       simp; omega
      ·rename_i g1 g2 g3 g4
       unfold runTk at h
       obtain ⟨y, hy, rfl⟩ := Option.map_eq_some_iff.1 h
       have a1 := runL_pos hy hc (cls_mark (by simpa using hs) g1 g2 g3 g4)
       have a2 := runL_len _ y hy
       split <;> exact ⟨a1, a2⟩
def ClsEnv (w : World) : Prop := (∀ j, j < 128 → w.cell? ⟨25, j, none⟩ = some (.int .u8 (clsTab.getD j 0))) ∧ 25 < w.heap.size
theorem ClsEnv.below {w w' : World} (h : ClsEnv w) (hb : Below w.heap.size w w') : ClsEnv w' :=
 ⟨fun j hj => (hb.cell (p := ⟨25, j, none⟩) h.2).trans (h.1 j hj), Nat.lt_of_lt_of_le h.2 hb.size⟩
theorem ClsEnv.belowB {w w' : World} {B : Nat} (h : ClsEnv w) (hB : 25 < B) (hb : Below B w w') : ClsEnv w' :=
 ⟨fun j hj => (hb.cell (p := ⟨25, j, none⟩) hB).trans (h.1 j hj), Nat.lt_of_lt_of_le h.2 hb.size⟩
theorem class_low (n : Nat) (v : Int) (w : World) (h : n < 128) (hc : w.cell? ⟨25, n, none⟩ = some (.int .u8 v)) :
  Calls Tryd.prog 61 #[.int .u8 (n : Int)] w fun e w' => e = .returned (.int .u8 v) ∧ w = w' := by
 go_enter Tryd.func61, Tryd.ntmps61
 go_wp2
 go_ret
 exact ⟨rfl, rfl⟩
theorem class_high (n : Nat) (w : World) (h : 128 ≤ n) :
  Calls Tryd.prog 61 #[.int .u8 (n : Int)] w fun e w' => e = .returned (.int .u8 0) ∧ w = w' := by
 go_enter Tryd.func61, Tryd.ntmps61
 go_wp2
 go_ret
 exact ⟨rfl, rfl⟩
theorem class_any (b : UInt8) (w : World) (hE : ClsEnv w) :
  Calls Tryd.prog 61 #[.int .u8 (b.toNat : Int)] w fun e w' => e = .returned (.int .u8 (cls b)) ∧ w = w' := by
 unfold cls
 by_cases h : b.toNat < 128
 ·rw [if_pos h]
  exact class_low b.toNat _ w h (hE.1 b.toNat h)
 ·rw [if_neg h]
  exact class_high b.toNat w (by omega)
theorem keyword_any (s : ByteArray) (w : World) :
  Calls Tryd.prog 76 #[.string s] w fun e w' => e = .returned (.int .i64 (kwd s.data.toList)) ∧ w = w' := by
 obtain ⟨e1, e2, e3, e4⟩ := kwd_toList s
 unfold kwd
 by_cases h1 : s.data.toList = [65, 78, 68]
 ·rw [if_pos h1]
  rw [decide_eq_true h1] at e1
  clear e2 e3 e4 h1
  go_enter Tryd.func76, Tryd.ntmps76
  go_wp2
  go_ret
  exact ⟨rfl, rfl⟩
 ·rw [if_neg h1]
  rw [decide_eq_false h1] at e1
  clear h1
  by_cases h2 : s.data.toList = [79, 82]
  ·rw [if_pos h2]
   rw [decide_eq_true h2] at e2
   clear e3 e4 h2
   go_enter Tryd.func76, Tryd.ntmps76
   go_wp2
   go_ret
   exact ⟨rfl, rfl⟩
  ·rw [if_neg h2]
   rw [decide_eq_false h2] at e2
   clear h2
   by_cases h3 : s.data.toList = [78, 79, 84]
   ·rw [if_pos h3]
    rw [decide_eq_true h3] at e3
    clear e4 h3
    go_enter Tryd.func76, Tryd.ntmps76
    go_wp2
    go_ret
    exact ⟨rfl, rfl⟩
   ·rw [if_neg h3]
    rw [decide_eq_false h3] at e3
    clear h3
    by_cases h4 : s.data.toList = [84, 79]
    ·rw [if_pos h4]
     rw [decide_eq_true h4] at e4
     clear h4
     go_enter Tryd.func76, Tryd.ntmps76
     go_wp2
     go_ret
     exact ⟨rfl, rfl⟩
    ·rw [if_neg h4]
     rw [decide_eq_false h4] at e4
     clear h4
     go_enter Tryd.func76, Tryd.ntmps76
     go_wp2
     go_ret
     exact ⟨rfl, rfl⟩
theorem byte_eq {c d : UInt8} (h : (c.toNat : Int) = d.toNat) : c = d := UInt8.toNat_inj.1 (by omega)
theorem ofNat_byte (c : UInt8) : UInt8.ofNat ((c.toNat : Int)).toNat = c := by rw [Int.toNat_natCast, UInt8.ofNat_toNat]
def RetB (w : World) (B : Nat) (l : List UInt8) (e : Ending) (w' : World) : Prop := ∃ v, e = .returned v ∧ OwnB w' B v l ∧ Below B w w'
def LRel (s : ByteArray) (first : Bool) (w : World) (B : Nat) (l0 : List UInt8) (v i : Value) (wr : World) : Prop :=
 ∃ k : Nat, k ≤ s.size ∧ i = .int .i64 k ∧ OwnB wr B v (l0 ++ lettersTo first s.data.toList k) ∧ Below B w wr ∧ ClsEnv wr
theorem esc_yes {f : Bool} {c : UInt8} (h : cls c ≠ 0 ∨ (f = true ∧ (c = 43 ∨ c = 45))) : esc f c = [92, c] := by unfold esc; rw [if_pos h]
theorem esc_no {f : Bool} {c : UInt8} (h : ¬ (cls c ≠ 0 ∨ (f = true ∧ (c = 43 ∨ c = 45)))) : esc f c = [c] := by unfold esc; rw [if_neg h]
def needB (first : Bool) (k : Nat) (c : UInt8) : Bool := decide (cls c ≠ 0 ∨ ((first && k == 0) = true ∧ (c = 43 ∨ c = 45)))
theorem need_cases (first : Bool) (k : Nat) (c : UInt8) :
  ((cls c != 0) = true ∧ needB first k c = true) ∨ ((cls c != 0) = false ∧ first = false ∧ needB first k c = false)
  ∨ ((cls c != 0) = false ∧ first = true ∧ ((k : Int) == 0) = false ∧ needB first k c = false)
  ∨ ((cls c != 0) = false ∧ first = true ∧ ((k : Int) == 0) = true ∧ ((c.toNat : Int) == 43) = true ∧ needB first k c = true)
  ∨ ((cls c != 0) = false ∧ first = true ∧ ((k : Int) == 0) = true ∧ ((c.toNat : Int) == 43) = false ∧ ((c.toNat : Int) == 45) = true ∧ needB first k c = true)
  ∨ ((cls c != 0) = false ∧ first = true ∧ ((k : Int) == 0) = true ∧ ((c.toNat : Int) == 43) = false ∧ ((c.toNat : Int) == 45) = false ∧ needB first k c = false) := by
 have h43 : ((c.toNat : Int) = 43) ↔ c = 43 := ⟨fun h => byte_eq (d := 43) h, fun h => by rw [h]; rfl⟩
 have h45 : ((c.toNat : Int) = 45) ↔ c = 45 := ⟨fun h => byte_eq (d := 45) h, fun h => by rw [h]; rfl⟩
 have e1 : (cls c != 0) = decide (cls c ≠ 0) := by rw [Bool.eq_iff_iff]; simp
 have e2 : ((k : Int) == 0) = decide (k = 0) := by rw [Bool.eq_iff_iff]; simp
 have e3 : ((c.toNat : Int) == 43) = decide (c = 43) := by rw [Bool.eq_iff_iff, beq_iff_eq, h43]; simp
 have e4 : ((c.toNat : Int) == 45) = decide (c = 45) := by rw [Bool.eq_iff_iff, beq_iff_eq, h45]; simp
 rw [e1, e2, e3, e4]
 unfold needB
 have e5 : (k == 0) = decide (k = 0) := rfl
 rw [e5]
 generalize cls c = x
 by_cases h1 : x = 0 <;> cases first <;> by_cases h2 : k = 0 <;> by_cases h3 : c = 43 <;> by_cases h4 : c = 45 <;> simp_all
theorem letters_step {s : ByteArray} {first : Bool} {k : Nat} {b : Bool} (h : k < s.size) (hn : needB first k s[k] = b) :
  lettersTo first s.data.toList (k + 1) = lettersTo first s.data.toList k ++ (if b then [92, s[k]] else [s[k]]) := by
 rw [lettersTo, getD_byte s k h]
 congr 1
 unfold needB at hn
 cases b
 ·exact esc_no (of_decide_eq_false hn)
 ·exact esc_yes (of_decide_eq_true hn)
theorem letters_end {s : ByteArray} {first : Bool} {k : Nat} (hk : k ≤ s.size) (hge : ¬ k < s.size) : lettersTo first s.data.toList k = lettersL first s.data.toList := by
 unfold lettersL; rw [← ba_size]; congr 1; omega
theorem single_any (c : UInt8) (w : World) :
  Calls Tryd.prog 83 #[.int .u8 (c.toNat : Int)] w fun e w' => e = .returned (.int .i64 (singleK c)) ∧ w = w' := by
 have hb : ∀ d : UInt8, ((c.toNat : Int) == (d.toNat : Int)) = decide (c = d) := fun d => by
  rw [Bool.eq_iff_iff, beq_iff_eq, decide_eq_true_iff]; exact ⟨byte_eq, fun h => by rw [h]⟩
 have e1 := hb 40; have e2 := hb 41; have e3 := hb 91; have e4 := hb 93; have e5 := hb 123; have e6 := hb 125; have e7 := hb 58; have e8 := hb 43; have e9 := hb 45; have e10 := hb 124
 simp only [show ((40 : UInt8).toNat : Int) = 40 from rfl, show ((41 : UInt8).toNat : Int) = 41 from rfl, show ((91 : UInt8).toNat : Int) = 91 from rfl, show ((93 : UInt8).toNat : Int) = 93 from rfl, show ((123 : UInt8).toNat : Int) = 123 from rfl, show ((125 : UInt8).toNat : Int) = 125 from rfl, show ((58 : UInt8).toNat : Int) = 58 from rfl, show ((43 : UInt8).toNat : Int) = 43 from rfl, show ((45 : UInt8).toNat : Int) = 45 from rfl, show ((124 : UInt8).toNat : Int) = 124 from rfl] at e1 e2 e3 e4 e5 e6 e7 e8 e9 e10
 clear hb
 generalize hk : singleK c = K
 unfold singleK at hk
 have HK := LH hk; clear hk
 generalize (c.toNat : Int) = x at *
 go_enter Tryd.func83, Tryd.ntmps83
 go_wp2
 all_goals go_ret
 all_goals refine ⟨?_, rfl⟩
 all_goals (have h := HK.out; simp_all)
def NumAt (s : ByteArray) (i : Nat) (w : World) (e : Ending) (w' : World) : Prop :=
 e = .returned (.tuple #[.int .i64 ((i + (digs (s.data.toList.drop i)).length : Nat) : Int), .int .i64 (ncap (digs (s.data.toList.drop i)) : Int), .bool (numOkB (s.data.toList.drop i))]) ∧ w = w'
def NRel (s : ByteArray) (i : Nat) (iv vv : Value) : Prop :=
 ∃ p : List UInt8, i + p.length ≤ s.size ∧ digs (s.data.toList.drop i) = p ++ digs (s.data.toList.drop (i + p.length)) ∧ iv = .int .i64 ((i + p.length : Nat) : Int) ∧ vv = .int .i64 (ncap p : Int)
theorem dropB (s : ByteArray) {k : Nat} (h : k < s.size) : s.data.toList.drop k = s[k] :: s.data.toList.drop (k + 1) :=
 List.drop_eq_getElem_cons (l := s.data.toList) (by rw [← ba_size]; exact h)
theorem dropB_nil (s : ByteArray) {k : Nat} (h : s.size ≤ k) : s.data.toList.drop k = [] := List.drop_eq_nil_of_le (by rw [← ba_size]; exact h)
theorem digs_yes {c : UInt8} {t : List UInt8} (h : isDg c = true) : digs (c :: t) = c :: digs t := by unfold digs; rw [List.takeWhile_cons, h]; rfl
theorem digs_no {c : UInt8} {t : List UInt8} (h : isDg c = false) : digs (c :: t) = [] := by unfold digs; rw [List.takeWhile_cons, h]; rfl
theorem NumEnd {a b p : List UInt8} (h : digs a = p ++ digs b) (h2 : digs b = []) : digs a = p := by rw [h, h2, List.append_nil]
theorem number_any (s : ByteArray) (i : Nat) (w : World) (hs : s.size ≤ 20000000000000) (hi : i ≤ s.size) :
  Calls Tryd.prog 86 #[.string s, .int .i64 (i : Int)] w (NumAt s i w) := by
 go_enter Tryd.func86, Tryd.ntmps86
 go_wp2
 go_loop [1, 8] (fun iv vv => NRel s i iv vv) (fun iv _ => s.size - (intOf iv).toNat)
 case atStart => exact ⟨[], by simpa using hi, rfl, rfl, rfl⟩
 case round =>
  obtain ⟨p, hp, hd, rfl, rfl⟩ := hrel
  have HD := LH hd; clear hd
  have hnc := ncap_le p
  generalize hk : i + p.length = k at *
  have HK := LH hk; clear hk
  by_cases hlt : k < s.size
  ·by_cases hdg : 48 ≤ (s[k].toNat : Int) ∧ (s[k].toNat : Int) ≤ 57
   ·obtain ⟨g1, g2⟩ := hdg
    have HY := LH (digs_yes (t := s.data.toList.drop (k + 1)) (show isDg s[k] = true from by unfold isDg; rw [decide_eq_true_iff]; omega))
    go_wp2
    go_round
    case rel =>
     refine ⟨p ++ [s[k]], ?_, ?_, ?_, ?_⟩
     ·rw [List.length_append, List.length_singleton]; have := HK.out; omega
     ·rw [HD.out, dropB s hlt, HY.out, List.append_assoc, List.length_append, List.length_singleton, ← Nat.add_assoc, HK.out]; rfl
     ·rw [List.length_append, List.length_singleton, ← Nat.add_assoc, HK.out]; go_num
     ·rw [ncap_snoc]
      refine congrArg _ ?_
      split <;> omega
    case measure => simp [intOf]; omega
   ·have HY := LH (show digs (s.data.toList.drop k) = [] from by rw [dropB s hlt]; exact digs_no (show isDg s[k] = false from by unfold isDg; rw [decide_eq_false_iff_not]; omega))
    have hcc : (s[k].toNat : Int) < 48 ∨ 57 < (s[k].toNat : Int) := by omega
    clear hdg
    rcases hcc with hcc | hcc
    ·have HF := LH (NumEnd HD.out HY.out)
     by_cases hp0 : i < k
     ·have HB : Hid (numOkB (s.data.toList.drop i) = decide ((ncap p : Int) ≤ 999999999)) := by
       unfold Hid numOkB; rw [HF.out, Bool.eq_iff_iff, decide_eq_true_iff, decide_eq_true_iff]; have := HK.out; omega
      go_wp2
      go_ret3
      exact ⟨by rw [HB.out, HF.out, HK.out]; rfl, rfl⟩
     ·have HB : Hid (numOkB (s.data.toList.drop i) = false) := by unfold Hid numOkB; rw [HF.out, decide_eq_false_iff_not]; have := HK.out; omega
      go_wp2
      go_ret3
      exact ⟨by rw [HB.out, HF.out, HK.out]; rfl, rfl⟩
    ·have HF := LH (NumEnd HD.out HY.out)
     by_cases hp0 : i < k
     ·have HB : Hid (numOkB (s.data.toList.drop i) = decide ((ncap p : Int) ≤ 999999999)) := by
       unfold Hid numOkB; rw [HF.out, Bool.eq_iff_iff, decide_eq_true_iff, decide_eq_true_iff]; have := HK.out; omega
      go_wp2
      go_ret3
      exact ⟨by rw [HB.out, HF.out, HK.out]; rfl, rfl⟩
     ·have HB : Hid (numOkB (s.data.toList.drop i) = false) := by unfold Hid numOkB; rw [HF.out, decide_eq_false_iff_not]; have := HK.out; omega
      go_wp2
      go_ret3
      exact ⟨by rw [HB.out, HF.out, HK.out]; rfl, rfl⟩
  ·have HY := LH (show digs (s.data.toList.drop k) = [] from by rw [dropB_nil s (by omega)]; rfl)
   have HF := LH (NumEnd HD.out HY.out)
   by_cases hp0 : i < k
   ·have HB : Hid (numOkB (s.data.toList.drop i) = decide ((ncap p : Int) ≤ 999999999)) := by
     unfold Hid numOkB; rw [HF.out, Bool.eq_iff_iff, decide_eq_true_iff, decide_eq_true_iff]; have := HK.out; omega
    go_wp2
    go_ret3
    exact ⟨by rw [HB.out, HF.out, HK.out]; rfl, rfl⟩
   ·have HB : Hid (numOkB (s.data.toList.drop i) = false) := by unfold Hid numOkB; rw [HF.out, decide_eq_false_iff_not]; have := HK.out; omega
    go_wp2
    go_ret3
    exact ⟨by rw [HB.out, HF.out, HK.out]; rfl, rfl⟩
theorem all_bytes {p : UInt8 → Bool} (h : (List.range 256).all (fun n => p (UInt8.ofNat n)) = true) (c : UInt8) : p c = true := by
 rw [List.all_eq_true] at h
 have := h c.toNat (by rw [List.mem_range]; exact c.toNat_lt)
 rwa [UInt8.ofNat_toNat] at this
theorem esc_cls (c : UInt8) : ((c == 92) == decide (cls c = 4)) = true :=
 all_bytes (p := fun c => (c == 92) == decide (cls c = 4)) (by decide +kernel) c
theorem byte_beq (c d : UInt8) : ((c.toNat : Int) == (d.toNat : Int)) = (c == d) := by
 rw [Bool.eq_iff_iff, beq_iff_eq, beq_iff_eq]; exact ⟨byte_eq, fun h => by rw [h]⟩
theorem cls_bd (c : UInt8) : 0 ≤ cls c ∧ cls c ≤ 4 := by
 have := all_bytes (p := fun c => decide (0 ≤ cls c ∧ cls c ≤ 4)) (by decide +kernel) c
 simpa using this
def lxVal (x : Lx) : Value := .agg #[.int .i64 x.kind, .string (str x.text), .int .i64 x.n, .int .i64 x.at_, .int .i64 x.end_]
def RetLx (w : World) (r : Option Lx) (e : Ending) (w' : World) : Prop :=
 Below w.heap.size w w' ∧ match r with
  | some x => e = .returned (.tuple #[lxVal x, .bool true])
  | none => ∃ x, e = .returned (.tuple #[lxVal x, .bool false])
theorem quotedL_end (t : List UInt8) : quotedL (34 :: t) = some ([], 1) := by cases t <;> rfl
theorem quotedL_esc (d : UInt8) (t : List UInt8) : quotedL (92 :: d :: t) = (quotedL t).map (fun x => (d :: x.1, x.2 + 2)) := rfl
theorem quotedL_other {c : UInt8} (t : List UInt8) (h1 : c ≠ 34) (h2 : c ≠ 92) : quotedL (c :: t) = (quotedL t).map (fun x => (c :: x.1, x.2 + 1)) := by
 cases t with
 | nil => simp [quotedL, h1]
 | cons d t => rw [quotedL, if_neg h1, if_neg h2]
def qadd (T : List UInt8) (n : Nat) (x : List UInt8 × Nat) : List UInt8 × Nat := (T ++ x.1, n + x.2)
def QPos (s : ByteArray) (i k : Nat) (T : List UInt8) : Prop :=
 i + 1 ≤ k ∧ k ≤ s.size + 1 ∧ T.length ≤ k ∧ quotedL (s.data.toList.drop (i + 1)) = (quotedL (s.data.toList.drop k)).map (qadd T (k - (i + 1)))
theorem QPos_start (s : ByteArray) (i : Nat) (h : i < s.size) : QPos s i (i + 1) [] := by
 refine ⟨Nat.le_refl _, by omega, by simp, ?_⟩
 rw [Nat.sub_self]
 cases quotedL (s.data.toList.drop (i + 1)) with
 | none => rfl
 | some x => simp [qadd]
theorem QPos_esc {s : ByteArray} {i k : Nat} {T : List UInt8} (h : QPos s i k T) (h1 : k + 1 < s.size) (h92 : s[k] = 92) : QPos s i (k + 2) (T ++ [s[k + 1]]) := by
 obtain ⟨g1, g2, g3, g4⟩ := h
 refine ⟨by omega, by omega, by simp; omega, ?_⟩
 rw [g4, dropB s (by omega : k < s.size), dropB s h1, h92, quotedL_esc, Option.map_map]
 congr 1
 funext x
 simp [qadd]; omega
theorem QPos_esc_end {s : ByteArray} {i k : Nat} {T : List UInt8} (h : QPos s i k T) (hk : k < s.size) (h1 : ¬ k + 1 < s.size) (h92 : s[k] = 92) : QPos s i (k + 2) T := by
 obtain ⟨g1, g2, g3, g4⟩ := h
 refine ⟨by omega, by omega, by omega, ?_⟩
 rw [g4, dropB s hk, dropB_nil s (by omega : s.size ≤ k + 1), dropB_nil s (by omega : s.size ≤ k + 2), h92]; rfl
theorem QPos_other {s : ByteArray} {i k : Nat} {T : List UInt8} (h : QPos s i k T) (hk : k < s.size) (h34 : s[k] ≠ 34) (h92 : s[k] ≠ 92) : QPos s i (k + 1) (T ++ [s[k]]) := by
 obtain ⟨g1, g2, g3, g4⟩ := h
 refine ⟨by omega, by omega, by simp; omega, ?_⟩
 rw [g4, dropB s hk, quotedL_other _ h34 h92, Option.map_map]
 congr 1
 funext x
 simp [qadd]; omega
theorem QPos_yes {s : ByteArray} {i k : Nat} {T : List UInt8} (h : QPos s i k T) (hk : k < s.size) (h34 : s[k] = 34) : quotedL (s.data.toList.drop (i + 1)) = some (T, k - i) := by
 obtain ⟨g1, g2, g3, g4⟩ := h
 rw [g4, dropB s hk, h34, quotedL_end]
 simp [qadd]; omega
theorem QPos_no {s : ByteArray} {i k : Nat} {T : List UInt8} (h : QPos s i k T) (hk : ¬ k < s.size) : quotedL (s.data.toList.drop (i + 1)) = none := by
 obtain ⟨g1, g2, g3, g4⟩ := h
 rw [g4, dropB_nil s (by omega)]; rfl
def qTok (s : ByteArray) (i : Nat) : Option Lx := (quotedL (s.data.toList.drop (i + 1))).map fun x => ⟨3, x.1, 0, i, i + 1 + x.2⟩
def Blk5 (w : World) (g : Nat) (a b c d e : Value) : Prop := w.heap[g]? = some (.cells #[a, b, c, d, e] 74 (0, 0))
theorem Blk5.facts {w : World} {g : Nat} {a b c d e : Value} (h : Blk5 w g a b c d e) :
  (w.cell? ⟨g, 0, none⟩ = some a ∧ w.cell? ⟨g, 1, none⟩ = some b ∧ w.cell? ⟨g, 2, none⟩ = some c ∧ w.cell? ⟨g, 3, none⟩ = some d ∧ w.cell? ⟨g, 4, none⟩ = some e)
  ∧ w.frozen? ⟨g, 0, none⟩ = false ∧ w.frozen? ⟨g, 1, none⟩ = false ∧ w.frozen? ⟨g, 2, none⟩ = false ∧ w.frozen? ⟨g, 3, none⟩ = false ∧ w.frozen? ⟨g, 4, none⟩ = false := by
 unfold Blk5 at h
 simp [World.cell?, World.frozen?, h]
theorem Blk5.lt {w : World} {g : Nat} {a b c d e : Value} (h : Blk5 w g a b c d e) : g < w.heap.size := by
 rcases Nat.lt_or_ge g w.heap.size with hl | hl
 ·exact hl
 ·unfold Blk5 at h; rw [Array.getElem?_eq_none hl] at h; cases h
theorem Blk5.new (w : World) (a b c d e : Value) : Blk5 (w.alloc (.cells #[a, b, c, d, e] 74)) w.heap.size a b c d e := by
 show (w.heap.push _)[w.heap.size]? = _
 simp
theorem Blk5.below {w w' : World} {B g : Nat} {a b c d e : Value} (h : Blk5 w g a b c d e) (hb : Below B w w') (hg : g < B) : Blk5 w' g a b c d e := (hb.block g hg).trans h
def QuRel (s : ByteArray) (i : Nat) (w : World) (v iv : Value) (wr : World) : Prop :=
 ∃ k T, QPos s i k T ∧ iv = .int .i64 (k : Int) ∧ OwnB wr (w.heap.size + 1) v T ∧ Blk5 wr w.heap.size (.int .i64 0) (.string ⟨#[]⟩) (.int .i64 0) (.int .i64 0) (.int .i64 0) ∧ Below w.heap.size w wr
theorem quoted_any (s : ByteArray) (i : Nat) (w : World) (hs : s.size ≤ 900000000000) (hi : i < s.size) :
  Calls Tryd.prog 84 #[.string s, .int .i64 (i : Int)] w (RetLx w (qTok s i)) := by
 have HI := LH hi
 go_enter Tryd.func84, Tryd.ntmps84
 go_wp2
 go_loopw [6, 7] (fun v iv wr => QuRel s i w v iv wr) (fun _ iv _ => s.size + 1 - (intOf iv).toNat)
 case atStart =>
  have hB := Blk5.new w (.int .i64 0) (.string ⟨#[]⟩) (.int .i64 0) (.int .i64 0) (.int .i64 0)
  refine ⟨i + 1, [], QPos_start s i HI.out, by go_num, ?_, hB.below ((Below.refl _ _).alloc (Nat.le_refl _) _) (by simp), ((Below.refl _ _).alloc (Nat.le_refl _) _).alloc (by simp) _⟩
  have := OwnB.lit0 (w.alloc (.cells #[.int .i64 0, .string ⟨#[]⟩, .int .i64 0, .int .i64 0, .int .i64 0] 74)) (B := w.heap.size + 1) (by simp)
  simpa using this
 case round =>
  obtain ⟨k, T, hp, rfl, ho, hblk, hb⟩ := hrel
  have hk := hp.2.1
  have hT := hp.2.2.1
  have HP := LH hp; clear hp
  have HO := LH ho; clear ho
  have HK := LH hblk
  have hBr : w.heap.size + 1 ≤ wr.heap.size := hblk.lt
  clear hblk
  by_cases hlt : k < s.size
  ·have hbx := u8_lt s[k]
   have b34 := byte_beq s[k] 34
   have b92 := byte_beq s[k] 92
   rw [show ((34 : UInt8).toNat : Int) = 34 from rfl] at b34
   rw [show ((92 : UInt8).toNat : Int) = 92 from rfl] at b92
   by_cases h34 : s[k] = 34
   ·have e34 : ((s[k].toNat : Int) != 34) = false := by rw [h34]; rfl
    have HY := LH (QPos_yes HP.out hlt h34)
    clear b34 b92 h34
    obtain ⟨⟨c0, c1, c2, c3, c4⟩, f0, f1, f2, f3, f4⟩ := HK.out.facts
    have HC := LH HO.out.conv
    go_wp2_with fail
    simp only [HC.out, Result.andThen]
    go_wp2
    refine bodyPost_ret (v := .tuple #[lxVal ⟨3, T, 0, i, k + 1⟩, .bool true]) ?_ rfl ?_
    ·simp [results, Tryd.results84, go_sem, lxVal, c0, c1, c2, c3, c4]
    ·refine ⟨((((hb.setCell (Nat.le_refl _) _).setCell (Nat.le_refl _) _).setCell (Nat.le_refl _) _).setCell (Nat.le_refl _) _).setCell (Nat.le_refl _) _, ?_⟩
     unfold qTok
     rw [HY.out]
     simp only [Option.map_some]
     rw [show i + 1 + (k - i) = k + 1 from by have := HP.out.1; omega]
   ·have e34 : ((s[k].toNat : Int) != 34) = true := by rw [bne, b34]; simp [h34]
    have H34 := LH h34
    clear h34 b34
    by_cases h92 : s[k] = 92
    ·have e92 : ((s[k].toNat : Int) == 92) = true := by rw [h92]; rfl
     have H92 := LH h92
     clear h92 b92
     by_cases hlt2 : k + 1 < s.size
     ·have hbx2 := u8_lt s[k + 1]
      go_wp2_with (at_builtin; refine OwnB.appendAt HO.out _ _ rfl _ _ rfl rfl rfl ?_ ?_ ?_ hBr ?_ ?_)
      all_goals first | omega | exact (World.size_alloc ..).symm | skip
      intro v' w' h2 h3 h3k
      have H2 := LH h2; clear h2 h3k
      go_wp2
      go_roundw
      case rel =>
       refine ⟨k + 2, _, QPos_esc HP.out hlt2 H92.out, by go_num, ?_, HK.out.below h3 (by omega), hb.trans (h3.mono (by omega))⟩
       simpa [ofNat_byte] using H2.out
      case measure => simp [intOf]; omega
     ·go_wp2
      go_roundw
      case rel => exact ⟨k + 2, T, QPos_esc_end HP.out hlt hlt2 H92.out, by go_num, HO.out, HK.out, hb⟩
      case measure => simp [intOf]; omega
    ·have e92 : ((s[k].toNat : Int) == 92) = false := by rw [b92]; simp [h92]
     have H92 := LH h92
     clear h92 b92
     go_wp2_with (at_builtin; refine OwnB.appendAt HO.out _ _ rfl _ _ rfl rfl rfl ?_ ?_ ?_ hBr ?_ ?_)
     all_goals first | omega | exact (World.size_alloc ..).symm | skip
     intro v' w' h2 h3 h3k
     have H2 := LH h2; clear h2 h3k
     go_wp2
     go_roundw
     case rel =>
      refine ⟨k + 1, _, QPos_other HP.out hlt H34.out H92.out, by go_num, ?_, HK.out.below h3 (by omega), hb.trans (h3.mono (by omega))⟩
      simpa [ofNat_byte] using H2.out
     case measure => simp [intOf]; omega
  ·have HY := LH (QPos_no HP.out hlt)
   obtain ⟨⟨c0, c1, c2, c3, c4⟩, f0, f1, f2, f3, f4⟩ := HK.out.facts
   have HC := LH HO.out.conv
   go_wp2_with fail
   simp only [HC.out, Result.andThen]
   go_wp2
   refine bodyPost_ret (v := .tuple #[lxVal ⟨3, T, 0, i, k + 1⟩, .bool false]) ?_ rfl ?_
   ·simp [results, Tryd.results84, go_sem, lxVal, c0, c1, c2, c3, c4]
   ·refine ⟨((((hb.setCell (Nat.le_refl _) _).setCell (Nat.le_refl _) _).setCell (Nat.le_refl _) _).setCell (Nat.le_refl _) _).setCell (Nat.le_refl _) _, ?_⟩
    unfold qTok
    rw [HY.out]
    exact ⟨_, rfl⟩
end Go.Proofs.YthcldpminmhgkaaDoor
end
