/- Merged for a claim by shake.py: Lp Sp Lk Sn Lr Sq Sr St Sc Bp Lq -/
import Derived.Test.YthcldpminmhgkaaDoorKrA
import Derived.Lib.SlBytesConst
import Derived.Test.YthcldpminmhgkaaDoorKr1
set_option maxRecDepth 100000
set_option maxHeartbeats 1000000
set_option linter.unusedSimpArgs false
section
namespace Go.Proofs.YthcldpminmhgkaaDoor
open Go.RowKit
def clsTab : List Int := (List.range 128).map fun j =>
 if j = 32 ∨ j = 9 ∨ j = 10 ∨ j = 13 then 1
 else if j = 40 ∨ j = 41 ∨ j = 91 ∨ j = 93 ∨ j = 123 ∨ j = 125 ∨ j = 58 ∨ j = 124 ∨ j = 94 ∨ j = 126 ∨ j = 64 ∨ j = 34 then 2
 else if j = 42 ∨ j = 63 then 3 else if j = 92 then 4 else 0
def cls (b : UInt8) : Int := if b.toNat < 128 then clsTab.getD b.toNat 0 else 0
def kwd (l : List UInt8) : Int := if l = [65, 78, 68] then 4 else if l = [79, 82] then 5 else if l = [78, 79, 84] then 6 else if l = [84, 79] then 7 else 1
def esc (first : Bool) (c : UInt8) : List UInt8 := if cls c ≠ 0 ∨ (first = true ∧ (c = 43 ∨ c = 45)) then [92, c] else [c]
def lettersTo (first : Bool) (l : List UInt8) : Nat → List UInt8
 | 0 => []
 | k + 1 => lettersTo first l k ++ esc (first && k == 0) (l.getD k 0)
def lettersL (first : Bool) (l : List UInt8) : List UInt8 := lettersTo first l l.length
def wordL (l : List UInt8) : List UInt8 := if kwd l ≠ 1 then 92 :: l else lettersL true l
def qesc (c : UInt8) : List UInt8 := if c = 34 ∨ c = 92 then [92, c] else [c]
def quoteTo (l : List UInt8) : Nat → List UInt8
 | 0 => [34]
 | k + 1 => quoteTo l k ++ qesc (l.getD k 0)
def quoteL (l : List UInt8) : List UInt8 := quoteTo l l.length ++ [34]
theorem getD_byte (s : ByteArray) (k : Nat) (h : k < s.size) : s.data.toList.getD k 0 = s[k] := by
 rw [List.getD_eq_getElem?_getD, List.getElem?_eq_getElem (by rw [← ba_size]; exact h)]; rfl
theorem esc_length (f : Bool) (c : UInt8) : (esc f c).length ≤ 2 := by unfold esc; split <;> simp
theorem lettersTo_length (f : Bool) (l : List UInt8) (k : Nat) : (lettersTo f l k).length ≤ 2 * k := by
 induction k with
 | zero => simp [lettersTo]
 | succ k ih => rw [lettersTo, List.length_append]; have := esc_length (f && k == 0) (l.getD k 0); omega
theorem quoteTo_length (l : List UInt8) (k : Nat) : (quoteTo l k).length ≤ 2 * k + 1 := by
 induction k with
 | zero => simp [quoteTo]
 | succ k ih =>
  rw [quoteTo, List.length_append]
  have : (qesc (l.getD k 0)).length ≤ 2 := by unfold qesc; split <;> simp
  omega
theorem kwd_toList (s : ByteArray) : (s.toList == [65, 78, 68]) = decide (s.data.toList = [65, 78, 68]) ∧ (s.toList == [79, 82]) = decide (s.data.toList = [79, 82]) ∧ (s.toList == [78, 79, 84]) = decide (s.data.toList = [78, 79, 84]) ∧ (s.toList == [84, 79]) = decide (s.data.toList = [84, 79]) := by
 rw [ba_toList]
 refine ⟨?_, ?_, ?_, ?_⟩ <;> (rw [Bool.eq_iff_iff]; simp)
theorem all_bytes' {p : UInt8 → Bool} (h : (List.range 256).all (fun n => p (UInt8.ofNat n)) = true) (c : UInt8) : p c = true := by
 rw [List.all_eq_true] at h
 have := h c.toNat (by rw [List.mem_range]; exact c.toNat_lt)
 rwa [UInt8.ofNat_toNat] at this
def isDg (c : UInt8) : Bool := decide (48 ≤ c.toNat ∧ c.toNat ≤ 57)
def digs (l : List UInt8) : List UInt8 := l.takeWhile isDg
def ncap (l : List UInt8) : Nat := l.foldl (fun v c => min (10 * v + (c.toNat - 48)) 1000000000) 0
theorem ncap_snoc (l : List UInt8) (c : UInt8) : ncap (l ++ [c]) = min (10 * ncap l + (c.toNat - 48)) 1000000000 := by simp [ncap]
theorem ncap_le (l : List UInt8) : ncap l ≤ 1000000000 := by
 induction l using snoc_ind with
 | h0 => simp [ncap]
 | h1 l c _ => rw [ncap_snoc]; omega
def numOkB (l : List UInt8) : Bool := decide (0 < (digs l).length ∧ ncap (digs l) ≤ 999999999)
structure Tk where
 kind : Int
 text : List UInt8
 n : Int
 len : Nat
structure Lx where
 kind : Int
 text : List UInt8
 n : Int
 at_ : Nat
 end_ : Nat
def Tk.lx (k : Tk) (i : Nat) : Lx := ⟨k.kind, k.text, k.n, i, i + k.len⟩
def singleK (c : UInt8) : Int :=
 if c = 40 then 8 else if c = 41 then 9 else if c = 91 then 10 else if c = 93 then 11 else if c = 123 then 12 else if c = 125 then 13
 else if c = 58 then 14 else if c = 43 then 15 else if c = 45 then 16 else if c = 124 then 17 else 0
def quotedL : List UInt8 → Option (List UInt8 × Nat)
 | [] => none
 | [c] => if c = 34 then some ([], 1) else none
 | c :: d :: t => if c = 34 then some ([], 1) else if c = 92 then (quotedL t).map (fun x => (d :: x.1, x.2 + 2)) else (quotedL (d :: t)).map (fun x => (c :: x.1, x.2 + 1))
def pe (d : UInt8) : List UInt8 := if cls d = 3 ∨ cls d = 4 then [92, d] else [d]
structure Rn where
 text : List UInt8
 pat : List UInt8
 wilds : Nat
 len : Nat
def Rn.add (a b : Rn) : Rn := ⟨a.text ++ b.text, a.pat ++ b.pat, a.wilds + b.wilds, a.len + b.len⟩
def runL : List UInt8 → Option Rn
 | [] => some ⟨[], [], 0, 0⟩
 | [c] => if cls c = 1 ∨ cls c = 2 then some ⟨[], [], 0, 0⟩ else if cls c = 3 then some ⟨[], [c], 1, 1⟩ else if cls c = 4 then none else some ⟨[c], [c], 0, 1⟩
 | c :: d :: t => if cls c = 1 ∨ cls c = 2 then some ⟨[], [], 0, 0⟩ else if cls c = 3 then (runL (d :: t)).map (Rn.add ⟨[], [c], 1, 1⟩)
   else if cls c = 4 then (runL t).map (Rn.add ⟨[d], pe d, 0, 2⟩) else (runL (d :: t)).map (Rn.add ⟨[c], [c], 0, 1⟩)
def numTk (kind : Int) (l : List UInt8) (m : Nat) : Option Tk := if numOkB l then some ⟨kind, [], ncap (digs l), m + (digs l).length⟩ else none
def runTk (l : List UInt8) : Option Tk := (runL l).map fun r => if 0 < r.wilds then ⟨2, r.pat, 0, r.len⟩ else ⟨kwd (l.take r.len), if kwd (l.take r.len) = 1 then r.text else [], 0, r.len⟩
def tokOf : List UInt8 → Option Tk
 | [] => none
 | c :: t =>
  if singleK c ≠ 0 then some ⟨singleK c, [], 0, 1⟩
  else if c = 34 then (quotedL t).map fun x => ⟨3, x.1, 0, x.2 + 1⟩
  else if c = 94 then (if t.head? = some 61 then numTk 19 (t.drop 1) 2 else numTk 18 t 1)
  else if c = 126 then (if digs t = [] then some ⟨20, [], -1, 1⟩ else numTk 20 t 1)
  else if c = 64 then numTk 21 t 1
  else runTk (c :: t)
def ahead (pre : List Lx) (r : List Lx × Option Nat) : List Lx × Option Nat := match r.2 with | none => (pre ++ r.1, none) | some p => ([], some p)
theorem ahead_nil (r : List Lx × Option Nat) (h : r.2 = none ∨ r.1 = []) : ahead [] r = r := by
 obtain ⟨a, b⟩ := r
 cases b with
 | none => simp [ahead]
 | some p => rcases h with h | h; cases h; simp at h; subst h; rfl
theorem ahead_ahead (a b : List Lx) (r : List Lx × Option Nat) : ahead a (ahead b r) = ahead (a ++ b) r := by
 obtain ⟨x, y⟩ := r
 cases y <;> simp [ahead]
def scanF : Nat → List UInt8 → Nat → List Lx × Option Nat
 | 0, _, i => ([], some i)
 | _ + 1, [], i => ([⟨0, [], 0, i, i⟩], none)
 | f + 1, c :: t, i => if cls c = 1 then scanF f t (i + 1) else match tokOf (c :: t) with
  | none => ([], some i)
  | some k => ahead [k.lx i] (scanF f ((c :: t).drop k.len) (i + k.len))
def scanL (q : List UInt8) : List Lx × Option Nat := scanF (q.length + 1) q 0
theorem cls_mark {c : UInt8} (h : singleK c = 0) (h1 : c ≠ 34) (h2 : c ≠ 94) (h3 : c ≠ 126) (h4 : c ≠ 64) : cls c ≠ 2 := by
 have := all_bytes' (p := fun c => decide (singleK c = 0 → c ≠ 34 → c ≠ 94 → c ≠ 126 → c ≠ 64 → cls c ≠ 2)) (by decide +kernel) c
 exact of_decide_eq_true this h h1 h2 h3 h4
theorem digs_length (l : List UInt8) : (digs l).length ≤ l.length := by
 induction l with
 | nil => simp [digs]
 | cons c l ih => unfold digs at *; rw [List.takeWhile_cons]; split <;> simp; omega
theorem numTk_len {kind : Int} {l : List UInt8} {m : Nat} {k : Tk} (h : numTk kind l m = some k) : m + 1 ≤ k.len ∧ k.len ≤ m + l.length := by
 unfold numTk at h
 split at h
 ·rename_i hn
  cases h
  have := of_decide_eq_true hn
  have := digs_length l
  show m + 1 ≤ m + (digs l).length ∧ m + (digs l).length ≤ m + l.length
  omega
 ·cases h
theorem quotedL_len : ∀ (l : List UInt8) (x : List UInt8 × Nat), quotedL l = some x → 1 ≤ x.2 ∧ x.2 ≤ l.length
 | [], x, h => by simp [quotedL] at h
 | [c], x, h => by
  unfold quotedL at h
  split at h
  ·cases h; simp
  ·cases h
 | c :: d :: t, x, h => by
  unfold quotedL at h
  split at h
  ·cases h; simp
  ·split at h
   ·obtain ⟨y, hy, rfl⟩ := Option.map_eq_some_iff.1 h
    have := quotedL_len t y hy
    simp; omega
   ·obtain ⟨y, hy, rfl⟩ := Option.map_eq_some_iff.1 h
    have := quotedL_len (d :: t) y hy
    simp at this ⊢; omega
theorem runL_len : ∀ (l : List UInt8) (r : Rn), runL l = some r → r.len ≤ l.length
 | [], r, h => by simp [runL] at h; subst h; simp
 | [c], r, h => by
  unfold runL at h
  repeat' split at h
  all_goals first | (cases h; done) | (cases h; simp)
 | c :: d :: t, r, h => by
  unfold runL at h
  split at h
  ·cases h; simp
  ·split at h
   ·obtain ⟨y, hy, rfl⟩ := Option.map_eq_some_iff.1 h
    have := runL_len (d :: t) y hy
    simp [Rn.add] at this ⊢; omega
   ·split at h
    ·obtain ⟨y, hy, rfl⟩ := Option.map_eq_some_iff.1 h
     have := runL_len t y hy
     simp [Rn.add]; omega
    ·obtain ⟨y, hy, rfl⟩ := Option.map_eq_some_iff.1 h
     have := runL_len (d :: t) y hy
     simp [Rn.add] at this ⊢; omega
theorem runL_pos {c : UInt8} {t : List UInt8} {r : Rn} (h : runL (c :: t) = some r) (h1 : cls c ≠ 1) (h2 : cls c ≠ 2) : 1 ≤ r.len := by
 cases t with
 | nil =>
  unfold runL at h
  rw [if_neg (by omega)] at h
  repeat' split at h
  all_goals first | (cases h; done) | (cases h; simp)
 | cons d t =>
  unfold runL at h
  rw [if_neg (by omega)] at h
  repeat' split at h
  all_goals
   obtain ⟨y, hy, rfl⟩ := Option.map_eq_some_iff.1 h
   simp only [Rn.add]; omega
theorem tok_len {l : List UInt8} {k : Tk} (h : tokOf l = some k) (hb : ∀ c, l.head? = some c → cls c ≠ 1) : 1 ≤ k.len ∧ k.len ≤ l.length := by
 cases l with
 | nil => cases h
 | cons c t =>
  have hc := hb c rfl
  simp only [tokOf] at h
  split at h
  ·cases h; simp
  ·rename_i hs
   split at h
   ·obtain ⟨y, hy, rfl⟩ := Option.map_eq_some_iff.1 h
    have := quotedL_len t y hy
    simp; omega
   ·split at h
    ·split at h
     ·rename_i h61
      have := numTk_len h
      have h1 : 1 ≤ t.length := by cases t; simp at h61; simp
      simp at this ⊢; omega
     ·have := numTk_len h
      simp; omega
    ·split at h
     ·split at h
      ·cases h; simp
      ·have := numTk_len h
       simp; omega
     ·split at h
      ·have := numTk_len h
       simp; omega
      ·rename_i g1 g2 g3 g4
       unfold runTk at h
       obtain ⟨y, hy, rfl⟩ := Option.map_eq_some_iff.1 h
       have a1 := runL_pos hy hc (cls_mark (by simpa using hs) g1 g2 g3 g4)
       have a2 := runL_len _ y hy
       split <;> exact ⟨a1, a2⟩
def ClsEnv (w : World) : Prop := (∀ j, j < 128 → w.cell? ⟨25, j, none⟩ = some (.int .u8 (clsTab.getD j 0))) ∧ 25 < w.heap.size
theorem ClsEnv.below {w w' : World} (h : ClsEnv w) (hb : Below w.heap.size w w') : ClsEnv w' :=
 ⟨fun j hj => (hb.cell (p := ⟨25, j, none⟩) h.2).trans (h.1 j hj), Nat.lt_of_lt_of_le h.2 hb.size⟩
theorem ClsEnv.belowB {w w' : World} {B : Nat} (h : ClsEnv w) (hB : 25 < B) (hb : Below B w w') : ClsEnv w' :=
 ⟨fun j hj => (hb.cell (p := ⟨25, j, none⟩) hB).trans (h.1 j hj), Nat.lt_of_lt_of_le h.2 hb.size⟩
theorem class_low (n : Nat) (v : Int) (w : World) (h : n < 128) (hc : w.cell? ⟨25, n, none⟩ = some (.int .u8 v)) :
  Calls Tryd.prog 61 #[.int .u8 (n : Int)] w fun e w' => e = .returned (.int .u8 v) ∧ w = w' := by
 go_enter Tryd.func61, Tryd.ntmps61
 go_wp2
 go_ret
 exact ⟨rfl, rfl⟩
theorem class_high (n : Nat) (w : World) (h : 128 ≤ n) :
  Calls Tryd.prog 61 #[.int .u8 (n : Int)] w fun e w' => e = .returned (.int .u8 0) ∧ w = w' := by
 go_enter Tryd.func61, Tryd.ntmps61
 go_wp2
 go_ret
 exact ⟨rfl, rfl⟩
theorem class_any (b : UInt8) (w : World) (hE : ClsEnv w) :
  Calls Tryd.prog 61 #[.int .u8 (b.toNat : Int)] w fun e w' => e = .returned (.int .u8 (cls b)) ∧ w = w' := by
 unfold cls
 by_cases h : b.toNat < 128
 ·rw [if_pos h]
  exact class_low b.toNat _ w h (hE.1 b.toNat h)
 ·rw [if_neg h]
  exact class_high b.toNat w (by omega)
theorem keyword_any (s : ByteArray) (w : World) :
  Calls Tryd.prog 76 #[.string s] w fun e w' => e = .returned (.int .i64 (kwd s.data.toList)) ∧ w = w' := by
 obtain ⟨e1, e2, e3, e4⟩ := kwd_toList s
 unfold kwd
 by_cases h1 : s.data.toList = [65, 78, 68]
 ·rw [if_pos h1]
  rw [decide_eq_true h1] at e1
  clear e2 e3 e4 h1
  go_enter Tryd.func76, Tryd.ntmps76
  go_wp2
  go_ret
  exact ⟨rfl, rfl⟩
 ·rw [if_neg h1]
  rw [decide_eq_false h1] at e1
  clear h1
  by_cases h2 : s.data.toList = [79, 82]
  ·rw [if_pos h2]
   rw [decide_eq_true h2] at e2
   clear e3 e4 h2
   go_enter Tryd.func76, Tryd.ntmps76
   go_wp2
   go_ret
   exact ⟨rfl, rfl⟩
  ·rw [if_neg h2]
   rw [decide_eq_false h2] at e2
   clear h2
   by_cases h3 : s.data.toList = [78, 79, 84]
   ·rw [if_pos h3]
    rw [decide_eq_true h3] at e3
    clear e4 h3
    go_enter Tryd.func76, Tryd.ntmps76
    go_wp2
    go_ret
    exact ⟨rfl, rfl⟩
   ·rw [if_neg h3]
    rw [decide_eq_false h3] at e3
    clear h3
    by_cases h4 : s.data.toList = [84, 79]
    ·rw [if_pos h4]
     rw [decide_eq_true h4] at e4
     clear h4
     go_enter Tryd.func76, Tryd.ntmps76
     go_wp2
     go_ret
     exact ⟨rfl, rfl⟩
    ·rw [if_neg h4]
     rw [decide_eq_false h4] at e4
     clear h4
     go_enter Tryd.func76, Tryd.ntmps76
     go_wp2
     go_ret
     exact ⟨rfl, rfl⟩
theorem byte_eq {c d : UInt8} (h : (c.toNat : Int) = d.toNat) : c = d := UInt8.toNat_inj.1 (by omega)
theorem ofNat_byte (c : UInt8) : UInt8.ofNat ((c.toNat : Int)).toNat = c := by rw [Int.toNat_natCast, UInt8.ofNat_toNat]
def RetB (w : World) (B : Nat) (l : List UInt8) (e : Ending) (w' : World) : Prop := ∃ v, e = .returned v ∧ OwnB w' B v l ∧ Below B w w'
def LRel (s : ByteArray) (first : Bool) (w : World) (B : Nat) (l0 : List UInt8) (v i : Value) (wr : World) : Prop :=
 ∃ k : Nat, k ≤ s.size ∧ i = .int .i64 k ∧ OwnB wr B v (l0 ++ lettersTo first s.data.toList k) ∧ Below B w wr ∧ ClsEnv wr
theorem esc_yes {f : Bool} {c : UInt8} (h : cls c ≠ 0 ∨ (f = true ∧ (c = 43 ∨ c = 45))) : esc f c = [92, c] := by unfold esc; rw [if_pos h]
theorem esc_no {f : Bool} {c : UInt8} (h : ¬ (cls c ≠ 0 ∨ (f = true ∧ (c = 43 ∨ c = 45)))) : esc f c = [c] := by unfold esc; rw [if_neg h]
def needB (first : Bool) (k : Nat) (c : UInt8) : Bool := decide (cls c ≠ 0 ∨ ((first && k == 0) = true ∧ (c = 43 ∨ c = 45)))
theorem need_cases (first : Bool) (k : Nat) (c : UInt8) :
  ((cls c != 0) = true ∧ needB first k c = true) ∨ ((cls c != 0) = false ∧ first = false ∧ needB first k c = false)
  ∨ ((cls c != 0) = false ∧ first = true ∧ ((k : Int) == 0) = false ∧ needB first k c = false)
  ∨ ((cls c != 0) = false ∧ first = true ∧ ((k : Int) == 0) = true ∧ ((c.toNat : Int) == 43) = true ∧ needB first k c = true)
  ∨ ((cls c != 0) = false ∧ first = true ∧ ((k : Int) == 0) = true ∧ ((c.toNat : Int) == 43) = false ∧ ((c.toNat : Int) == 45) = true ∧ needB first k c = true)
  ∨ ((cls c != 0) = false ∧ first = true ∧ ((k : Int) == 0) = true ∧ ((c.toNat : Int) == 43) = false ∧ ((c.toNat : Int) == 45) = false ∧ needB first k c = false) := by
 have h43 : ((c.toNat : Int) = 43) ↔ c = 43 := ⟨fun h => byte_eq (d := 43) h, fun h => by rw [h]; rfl⟩
 have h45 : ((c.toNat : Int) = 45) ↔ c = 45 := ⟨fun h => byte_eq (d := 45) h, fun h => by rw [h]; rfl⟩
 have e1 : (cls c != 0) = decide (cls c ≠ 0) := by rw [Bool.eq_iff_iff]; simp
 have e2 : ((k : Int) == 0) = decide (k = 0) := by rw [Bool.eq_iff_iff]; simp
 have e3 : ((c.toNat : Int) == 43) = decide (c = 43) := by rw [Bool.eq_iff_iff, beq_iff_eq, h43]; simp
 have e4 : ((c.toNat : Int) == 45) = decide (c = 45) := by rw [Bool.eq_iff_iff, beq_iff_eq, h45]; simp
 rw [e1, e2, e3, e4]
 unfold needB
 have e5 : (k == 0) = decide (k = 0) := rfl
 rw [e5]
 generalize cls c = x
 by_cases h1 : x = 0 <;> cases first <;> by_cases h2 : k = 0 <;> by_cases h3 : c = 43 <;> by_cases h4 : c = 45 <;> simp_all
theorem letters_step {s : ByteArray} {first : Bool} {k : Nat} {b : Bool} (h : k < s.size) (hn : needB first k s[k] = b) :
  lettersTo first s.data.toList (k + 1) = lettersTo first s.data.toList k ++ (if b then [92, s[k]] else [s[k]]) := by
 rw [lettersTo, getD_byte s k h]
 congr 1
 unfold needB at hn
 cases b
 ·exact esc_no (of_decide_eq_false hn)
 ·exact esc_yes (of_decide_eq_true hn)
theorem letters_end {s : ByteArray} {first : Bool} {k : Nat} (hk : k ≤ s.size) (hge : ¬ k < s.size) : lettersTo first s.data.toList k = lettersL first s.data.toList := by
 unfold lettersL; rw [← ba_size]; congr 1; omega
theorem dropB (s : ByteArray) {k : Nat} (h : k < s.size) : s.data.toList.drop k = s[k] :: s.data.toList.drop (k + 1) :=
 List.drop_eq_getElem_cons (l := s.data.toList) (by rw [← ba_size]; exact h)
def markTab : List UInt8 := [40, 41, 91, 93, 123, 125, 58, 124, 94, 126, 64, 34]
def markArr : Array Value := (markTab.map fun b => Value.int .u8 (b.toNat : Int)).toArray
theorem markArr_get (k : Nat) (h : k < 12) : markArr[k]? = some (.int .u8 ((markTab.getD k 0).toNat : Int)) := by
 unfold markArr
 rw [List.getElem?_toArray, List.getElem?_map, List.getElem?_eq_getElem (by simpa [markTab] using h)]
 rw [List.getD_eq_getElem?_getD, List.getElem?_eq_getElem (by simpa [markTab] using h)]; rfl
theorem all_bytes {p : UInt8 → Bool} (h : (List.range 256).all (fun n => p (UInt8.ofNat n)) = true) (c : UInt8) : p c = true := by
 rw [List.all_eq_true] at h
 have := h c.toNat (by rw [List.mem_range]; exact c.toNat_lt)
 rwa [UInt8.ofNat_toNat] at this
theorem mark_cls (c : UInt8) : (markTab.contains c == decide (cls c = 2)) = true :=
 all_bytes (p := fun c => markTab.contains c == decide (cls c = 2)) (by decide +kernel) c
theorem mark_eq (c : UInt8) : markTab.contains c = decide (cls c = 2) := beq_iff_eq.1 (mark_cls c)
theorem mark_any (c : UInt8) (w : World) :
  Calls Tryd.prog 124 #[.int .u8 (c.toNat : Int)] w fun e w' => e = .returned (.bool (decide (cls c = 2))) ∧ Below w.heap.size w w' := by
 have kc := fun (w : World) (C : Array Value) (n c : Nat) => Lib.run_convert_bytes_const (P := Tryd.prog) w 64 5 C n c Tryd.underlying64 Tryd.underlying5
 go_enter Tryd.func124, Tryd.ntmps124
 go_wp2
 clear kc
 go_loopw [8] (fun i wr => ∃ k : Nat, k ≤ 12 ∧ (∀ j, j < k → markTab.getD j 0 ≠ c) ∧ i = .int .i64 k ∧ wr = w.alloc (.cells markArr 5 (12, 13))) (fun i _ => 12 - (intOf i).toNat)
 case atStart => exact ⟨0, by omega, fun j hj => by omega, rfl, rfl⟩
 case round =>
  obtain ⟨k, hk, hno, rfl, rfl⟩ := hrel
  have HN := LH hno; clear hno
  have HB := LH ((Below.refl _ _ : Below w.heap.size w w).alloc (Nat.le_refl _) (.cells markArr 5 (12, 13)))
  by_cases hlt : k < 12
  ·have hc : (w.alloc (.cells markArr 5 (12, 13))).cell? ⟨w.heap.size, k, none⟩ = some (.int .u8 ((markTab.getD k 0).toNat : Int)) := by rw [World.cell?_alloc_mark, markArr_get k hlt]
   generalize hm : markTab.getD k 0 = m at *
   have HM := LH hm; clear hm
   by_cases heq : c = m
   ·have hb : ((c.toNat : Int) == (m.toNat : Int)) = true := by rw [heq]; simp
    have HE : Hid (decide (cls c = 2) = true) := by
     rw [← mark_eq, heq, ← HM.out, List.contains_eq_mem]
     simp only [decide_eq_true_eq]
     rw [List.getD_eq_getElem?_getD, List.getElem?_eq_getElem (by simpa [markTab] using hlt)]
     exact List.getElem_mem _
    clear heq
    go_wp2
    go_ret
    exact ⟨by rw [HE.out]; rfl, HB.out⟩
   ·have hb : ((c.toNat : Int) == (m.toNat : Int)) = false := by
     rw [beq_eq_false_iff_ne]; intro h; exact heq (byte_eq h)
    have HQ := LH heq; clear heq
    go_wp2
    go_roundw
    case rel =>
     refine ⟨k + 1, by omega, fun j hj => ?_, by go_num, by trivial⟩
     rcases Nat.lt_or_ge j k with h | h
     ·exact HN.out j h
     ·obtain rfl : j = k := by omega
      rw [HM.out]; exact fun e => HQ.out e.symm
    case measure => simp [intOf]; omega
  ·have HE : Hid (decide (cls c = 2) = false) := by
    rw [← mark_eq, List.contains_eq_mem, decide_eq_false_iff_not]
    intro hmem
    obtain ⟨j, hj, he⟩ := List.getElem_of_mem hmem
    have hj12 : j < k := by simp [markTab] at hj; omega
    refine HN.out j hj12 ?_
    rw [List.getD_eq_getElem?_getD, List.getElem?_eq_getElem hj, he]; rfl
   go_wp2
   go_ret
   exact ⟨by rw [HE.out]; rfl, HB.out⟩
theorem blank_cls (c : UInt8) : ((c == 32 || c == 9 || c == 10 || c == 13) == decide (cls c = 1)) = true :=
 all_bytes (p := fun c => (c == 32 || c == 9 || c == 10 || c == 13) == decide (cls c = 1)) (by decide +kernel) c
theorem wild_cls (c : UInt8) : ((c == 42 || c == 63) == decide (cls c = 3)) = true :=
 all_bytes (p := fun c => (c == 42 || c == 63) == decide (cls c = 3)) (by decide +kernel) c
theorem esc_cls (c : UInt8) : ((c == 92) == decide (cls c = 4)) = true :=
 all_bytes (p := fun c => (c == 92) == decide (cls c = 4)) (by decide +kernel) c
theorem byte_beq (c d : UInt8) : ((c.toNat : Int) == (d.toNat : Int)) = (c == d) := by
 rw [Bool.eq_iff_iff, beq_iff_eq, beq_iff_eq]; exact ⟨byte_eq, fun h => by rw [h]⟩
theorem blank_any (c : UInt8) (w : World) :
  Calls Tryd.prog 123 #[.int .u8 (c.toNat : Int)] w fun e w' => e = .returned (.bool (decide (cls c = 1))) ∧ w = w' := by
 have h := beq_iff_eq.1 (blank_cls c)
 have e1 := byte_beq c 32; have e2 := byte_beq c 9; have e3 := byte_beq c 10; have e4 := byte_beq c 13
 rw [← h, ← e1, ← e2, ← e3, ← e4]
 clear h e1 e2 e3 e4
 generalize (c.toNat : Int) = x
 go_enter Tryd.func123, Tryd.ntmps123
 go_wp2
 all_goals go_ret
 all_goals refine ⟨?_, rfl⟩
 all_goals simp_all
theorem wild_any (c : UInt8) (w : World) :
  Calls Tryd.prog 116 #[.int .u8 (c.toNat : Int)] w fun e w' => e = .returned (.bool (decide (cls c = 3))) ∧ w = w' := by
 have h := beq_iff_eq.1 (wild_cls c)
 have e1 := byte_beq c 42; have e2 := byte_beq c 63
 rw [← h, ← e1, ← e2]
 clear h e1 e2
 generalize (c.toNat : Int) = x
 go_enter Tryd.func116, Tryd.ntmps116
 go_wp2
 all_goals go_ret
 all_goals refine ⟨?_, rfl⟩
 all_goals simp_all
theorem cls_bd (c : UInt8) : 0 ≤ cls c ∧ cls c ≤ 4 := by
 have := all_bytes (p := fun c => decide (0 ≤ cls c ∧ cls c ≤ 4)) (by decide +kernel) c
 simpa using this
theorem e92_cls (c : UInt8) : ((c.toNat : Int) == 92) = decide (cls c = 4) := by
 have h := beq_iff_eq.1 (esc_cls c)
 have e1 := byte_beq c 92
 rw [← h, ← e1]; rfl
theorem escaped_mark (c : UInt8) (first : Bool) (w : World) (h : cls c ≠ 0) :
  Calls Tryd.prog 113 #[.int .u8 (c.toNat : Int), .bool first] w (RetB w w.heap.size (esc first c)) := by
 have hb := cls_bd c
 have h92 := e92_cls c
 have HX := LH (esc_yes (f := first) (c := c) (.inl h))
 have hcases : cls c = 1 ∨ cls c = 2 ∨ cls c = 3 ∨ cls c = 4 := by omega
 clear h hb
 rcases hcases with h | h | h | h
 ·clear h92
  go_enter Tryd.func113, Tryd.ntmps113
  go_wp2_with fail
  refine (blank_any c _).mono ?_
  rintro e w1 ⟨rfl, rfl⟩
  go_wp2
  go_ret
  exact ⟨_, rfl, by rw [HX.out]; exact OwnB.lit2 w (Nat.le_refl _) 92 c, (Below.refl _ _).alloc (Nat.le_refl _) _⟩
 ·clear h92
  go_enter Tryd.func113, Tryd.ntmps113
  go_wp2_with fail
  refine (blank_any c _).mono ?_
  rintro e w1 ⟨rfl, rfl⟩
  go_wp2_with fail
  refine (mark_any c _).mono ?_
  rintro e w1 ⟨rfl, hm⟩
  go_wp2
  go_ret
  exact ⟨_, rfl, by rw [HX.out]; exact OwnB.lit2 w1 hm.size 92 c, hm.alloc hm.size _⟩
 ·clear h92
  go_enter Tryd.func113, Tryd.ntmps113
  go_wp2_with fail
  refine (blank_any c _).mono ?_
  rintro e w1 ⟨rfl, rfl⟩
  go_wp2_with fail
  refine (mark_any c _).mono ?_
  rintro e w1 ⟨rfl, hm⟩
  go_wp2_with fail
  refine (wild_any c _).mono ?_
  rintro e w2 ⟨rfl, rfl⟩
  go_wp2
  go_ret
  exact ⟨_, rfl, by rw [HX.out]; exact OwnB.lit2 w1 hm.size 92 c, hm.alloc hm.size _⟩
 ·go_enter Tryd.func113, Tryd.ntmps113
  go_wp2_with fail
  refine (blank_any c _).mono ?_
  rintro e w1 ⟨rfl, rfl⟩
  go_wp2_with fail
  refine (mark_any c _).mono ?_
  rintro e w1 ⟨rfl, hm⟩
  go_wp2_with fail
  refine (wild_any c _).mono ?_
  rintro e w2 ⟨rfl, rfl⟩
  go_wp2
  go_ret
  exact ⟨_, rfl, by rw [HX.out]; exact OwnB.lit2 w1 hm.size 92 c, hm.alloc hm.size _⟩
theorem escaped_letter (c : UInt8) (first : Bool) (w : World) (h : cls c = 0) :
  Calls Tryd.prog 113 #[.int .u8 (c.toNat : Int), .bool first] w (RetB w w.heap.size (esc first c)) := by
 have h92 := e92_cls c
 have e43 := byte_beq c 43
 have e45 := byte_beq c 45
 rw [show ((43 : UInt8).toNat : Int) = 43 from rfl] at e43
 rw [show ((45 : UInt8).toNat : Int) = 45 from rfl] at e45
 have hcases : (first = true ∧ (c == 43) = true ∧ esc first c = [92, c]) ∨ (first = true ∧ (c == 43) = false ∧ (c == 45) = true ∧ esc first c = [92, c]) ∨ (first = true ∧ (c == 43) = false ∧ (c == 45) = false ∧ esc first c = [c]) ∨ (first = false ∧ esc first c = [c]) := by
  unfold esc
  by_cases h1 : c = 43 <;> by_cases h2 : c = 45 <;> cases first <;> simp_all
 rcases hcases with ⟨g1, g2, g3⟩ | ⟨g1, g2, g3, g4⟩ | ⟨g1, g2, g3, g4⟩ | ⟨g1, g4⟩
 ·have HX := LH g3; clear g3
  subst g1
  go_enter Tryd.func113, Tryd.ntmps113
  go_wp2_with fail
  refine (blank_any c _).mono ?_
  rintro e w1 ⟨rfl, rfl⟩
  go_wp2_with fail
  refine (mark_any c _).mono ?_
  rintro e w1 ⟨rfl, hm⟩
  go_wp2_with fail
  refine (wild_any c _).mono ?_
  rintro e w2 ⟨rfl, rfl⟩
  go_wp2
  go_ret
  exact ⟨_, rfl, by rw [HX.out]; exact OwnB.lit2 w1 hm.size 92 c, hm.alloc hm.size _⟩
 ·have HX := LH g4; clear g4
  subst g1
  go_enter Tryd.func113, Tryd.ntmps113
  go_wp2_with fail
  refine (blank_any c _).mono ?_
  rintro e w1 ⟨rfl, rfl⟩
  go_wp2_with fail
  refine (mark_any c _).mono ?_
  rintro e w1 ⟨rfl, hm⟩
  go_wp2_with fail
  refine (wild_any c _).mono ?_
  rintro e w2 ⟨rfl, rfl⟩
  go_wp2
  go_ret
  exact ⟨_, rfl, by rw [HX.out]; exact OwnB.lit2 w1 hm.size 92 c, hm.alloc hm.size _⟩
 ·have HX := LH g4; clear g4
  subst g1
  go_enter Tryd.func113, Tryd.ntmps113
  go_wp2_with fail
  refine (blank_any c _).mono ?_
  rintro e w1 ⟨rfl, rfl⟩
  go_wp2_with fail
  refine (mark_any c _).mono ?_
  rintro e w1 ⟨rfl, hm⟩
  go_wp2_with fail
  refine (wild_any c _).mono ?_
  rintro e w2 ⟨rfl, rfl⟩
  go_wp2
  go_ret
  exact ⟨_, rfl, by rw [HX.out]; exact OwnB.lit1 w1 hm.size c, hm.alloc hm.size _⟩
 ·have HX := LH g4; clear g4
  subst g1
  go_enter Tryd.func113, Tryd.ntmps113
  go_wp2_with fail
  refine (blank_any c _).mono ?_
  rintro e w1 ⟨rfl, rfl⟩
  go_wp2_with fail
  refine (mark_any c _).mono ?_
  rintro e w1 ⟨rfl, hm⟩
  go_wp2_with fail
  refine (wild_any c _).mono ?_
  rintro e w2 ⟨rfl, rfl⟩
  go_wp2
  go_ret
  exact ⟨_, rfl, by rw [HX.out]; exact OwnB.lit1 w1 hm.size c, hm.alloc hm.size _⟩
theorem escaped_any (c : UInt8) (first : Bool) (w : World) :
  Calls Tryd.prog 113 #[.int .u8 (c.toNat : Int), .bool first] w (RetB w w.heap.size (esc first c)) := by
 by_cases h : cls c = 0
 ·exact escaped_letter c first w h
 ·exact escaped_mark c first w h
def Blk5 (w : World) (g : Nat) (a b c d e : Value) : Prop := w.heap[g]? = some (.cells #[a, b, c, d, e] 74 (0, 0))
theorem Blk5.lt {w : World} {g : Nat} {a b c d e : Value} (h : Blk5 w g a b c d e) : g < w.heap.size := by
 rcases Nat.lt_or_ge g w.heap.size with hl | hl
 ·exact hl
 ·unfold Blk5 at h; rw [Array.getElem?_eq_none hl] at h; cases h
theorem Blk5.new (w : World) (a b c d e : Value) : Blk5 (w.alloc (.cells #[a, b, c, d, e] 74)) w.heap.size a b c d e := by
 show (w.heap.push _)[w.heap.size]? = _
 simp
theorem Blk5.below {w w' : World} {B g : Nat} {a b c d e : Value} (h : Blk5 w g a b c d e) (hb : Below B w w') (hg : g < B) : Blk5 w' g a b c d e := (hb.block g hg).trans h
section
variable {s : ByteArray} {i k W : Nat} {T P : List UInt8}
end
theorem OwnB.setCell {w : World} {B : Nat} {v : Value} {l : List UInt8} (h : OwnB w B v l) {p : Addr} (hp : p.block < B) (u : Value) : OwnB (w.setCell p u) B v l := ownsRow_setCell_below h hp u
def sTok (s : ByteArray) (i : Nat) : Option Lx := (tokOf (s.data.toList.drop i)).map fun k => k.lx i
section
variable {s : ByteArray} {i : Nat}
end
def lexS : Shape Lx := { tS := 67, tE := 74, size := 5, bytes := 48, enc := fun x => [.int .i64 x.kind, .string (str x.text), .int .i64 x.n, .int .i64 x.at_, .int .i64 x.end_], zero := .agg #[.int .i64 0, .string ⟨#[]⟩, .int .i64 0, .int .i64 0, .int .i64 0] }
theorem scanF_or (f : Nat) (l : List UInt8) (i : Nat) : (scanF f l i).2 = none ∨ (scanF f l i).1 = [] := by
 induction f generalizing l i with
 | zero => exact .inr rfl
 | succ f ih =>
  cases l with
  | nil => exact .inl rfl
  | cons c t =>
   rw [scanF]
   split
   ·exact ih _ _
   ·split
    ·exact .inr rfl
    ·rename_i k _
     rcases hr : scanF f ((c :: t).drop k.len) (i + k.len) with ⟨a, b⟩
     cases b with
     | none => exact .inl rfl
     | some p => exact .inr rfl
section
variable {s : ByteArray} {k f : Nat} {pre : List Lx}
end
def ErrAt (w : World) (g : Nat) (v : Value) : Prop := w.cell? ⟨g, 0, none⟩ = some v ∧ g < w.heap.size
theorem ErrAt.below {w w' : World} {B g : Nat} {v : Value} (h : ErrAt w g v) (hB : g < B) (hb : Below B w w') : ErrAt w' g v :=
 ⟨(hb.cell (p := ⟨g, 0, none⟩) hB).trans h.1, Nat.lt_of_lt_of_le h.2 hb.size⟩
theorem quotedL_app : ∀ (a b : List UInt8) (x : List UInt8 × Nat), quotedL a = some x → quotedL (a ++ b) = some x
 | [], b, x, h => by cases h
 | [c], [], x, h => by simpa using h
 | [c], d :: t, x, h => by
  unfold quotedL at h
  split at h
  ·rename_i hc; cases h
   rw [List.singleton_append, quotedL, if_pos hc]
  ·cases h
 | c :: d :: t, b, x, h => by
  rw [quotedL] at h
  rw [List.cons_append, List.cons_append, quotedL]
  split at h
  ·rename_i hc; cases h; rw [if_pos hc]
  ·rename_i hc
   rw [if_neg hc]
   split at h
   ·rename_i hd
    obtain ⟨y, hy, rfl⟩ := Option.map_eq_some_iff.1 h
    rw [if_pos hd, quotedL_app t b y hy]; rfl
   ·rename_i hd
    obtain ⟨y, hy, rfl⟩ := Option.map_eq_some_iff.1 h
    have := quotedL_app (d :: t) b y hy
    rw [List.cons_append] at this
    rw [if_neg hd, this]; rfl
def Lx.up (d : Nat) (x : Lx) : Lx := ⟨x.kind, x.text, x.n, x.at_ + d, x.end_ + d⟩
def upAll (d : Nat) (r : List Lx × Option Nat) : List Lx × Option Nat := (r.1.map (Lx.up d), r.2.map (· + d))
theorem Tk.lx_up (k : Tk) (i d : Nat) : k.lx (i + d) = (k.lx i).up d := by simp [Tk.lx, Lx.up]; omega
theorem ahead_up (d : Nat) (a : List Lx) (r : List Lx × Option Nat) : upAll d (ahead a r) = ahead (a.map (Lx.up d)) (upAll d r) := by
 obtain ⟨x, y⟩ := r
 cases y <;> simp [ahead, upAll]
theorem scanF_up (f : Nat) (l : List UInt8) (i d : Nat) : scanF f l (i + d) = upAll d (scanF f l i) := by
 induction f generalizing l i with
 | zero => rfl
 | succ f ih =>
  cases l with
  | nil => rfl
  | cons c t =>
   rw [scanF, scanF]
   split
   ·rw [show i + d + 1 = i + 1 + d from by omega, ih]
   ·split
    ·rfl
    ·rename_i k _
     rw [ahead_up, Tk.lx_up, show i + d + k.len = i + k.len + d from by omega, ih]; rfl
theorem scanF_fuel : ∀ (f f' : Nat) (l : List UInt8) (i : Nat), l.length < f → l.length < f' → scanF f l i = scanF f' l i
 | 0, _, l, i, h, _ => by omega
 | _, 0, l, i, _, h => by omega
 | f + 1, f' + 1, [], i, _, _ => rfl
 | f + 1, f' + 1, c :: t, i, h, h' => by
  simp only [List.length_cons] at h h'
  rw [scanF, scanF]
  split
  ·exact scanF_fuel f f' t (i + 1) (by omega) (by omega)
  ·rename_i hc
   split
   ·rfl
   ·rename_i k ht
    have hk := tok_len ht (fun d hd => by cases hd; exact hc)
    rw [scanF_fuel f f' _ _ (by rw [List.length_drop, List.length_cons]; omega) (by rw [List.length_drop, List.length_cons]; omega)]
theorem scanF_ne (f : Nat) (l : List UInt8) (i : Nat) (la : List Lx) (h : scanF f l i = (la, none)) : la ≠ [] := by
 induction f generalizing l i la with
 | zero => cases h
 | succ f ih =>
  cases l with
  | nil => cases h; simp
  | cons c t =>
   rw [scanF] at h
   split at h
   ·exact ih _ _ _ h
   ·split at h
    ·cases h
    ·rename_i k _
     rcases hr : scanF f ((c :: t).drop k.len) (i + k.len) with ⟨u, _ | z⟩
     ·rw [hr] at h; cases h; simp
     ·rw [hr] at h; cases h
def WRel (s : ByteArray) (w : World) (v i : Value) (wr : World) : Prop :=
 ∃ k : Nat, k ≤ s.size ∧ i = .int .i64 k ∧ OwnB wr w.heap.size v (lettersTo true s.data.toList k) ∧ Below w.heap.size w wr
theorem kwd_none {s : ByteArray} (h : kwd s.data.toList = 1) : (s.toList == [65, 78, 68]) = false ∧ (s.toList == [79, 82]) = false ∧ (s.toList == [78, 79, 84]) = false ∧ (s.toList == [84, 79]) = false := by
 obtain ⟨e1, e2, e3, e4⟩ := kwd_toList s
 unfold kwd at h
 rw [e1, e2, e3, e4]
 by_cases h1 : s.data.toList = [65, 78, 68]
 ·rw [if_pos h1] at h; omega
 ·rw [if_neg h1] at h
  by_cases h2 : s.data.toList = [79, 82]
  ·rw [if_pos h2] at h; omega
  ·rw [if_neg h2] at h
   by_cases h3 : s.data.toList = [78, 79, 84]
   ·rw [if_pos h3] at h; omega
   ·rw [if_neg h3] at h
    by_cases h4 : s.data.toList = [84, 79]
    ·rw [if_pos h4] at h; omega
    ·simp [h1, h2, h3, h4]
theorem kwd_some {s : ByteArray} (h : kwd s.data.toList ≠ 1) : (s.toList == [65, 78, 68]) = true ∨ (s.toList == [65, 78, 68]) = false ∧ (s.toList == [79, 82]) = true ∨ (s.toList == [65, 78, 68]) = false ∧ (s.toList == [79, 82]) = false ∧ (s.toList == [78, 79, 84]) = true ∨ (s.toList == [65, 78, 68]) = false ∧ (s.toList == [79, 82]) = false ∧ (s.toList == [78, 79, 84]) = false ∧ (s.toList == [84, 79]) = true := by
 obtain ⟨e1, e2, e3, e4⟩ := kwd_toList s
 unfold kwd at h
 rw [e1, e2, e3, e4]
 by_cases h1 : s.data.toList = [65, 78, 68]
 ·simp [h1]
 ·rw [if_neg h1] at h
  by_cases h2 : s.data.toList = [79, 82]
  ·simp [h2]
  ·rw [if_neg h2] at h
   by_cases h3 : s.data.toList = [78, 79, 84]
   ·simp [h3]
   ·rw [if_neg h3] at h
    by_cases h4 : s.data.toList = [84, 79]
    ·simp [h4]
    ·rw [if_neg h4] at h; exact absurd rfl h
theorem word_kw {s : ByteArray} (h : kwd s.data.toList ≠ 1) : (⟨#[92]⟩ : ByteArray) ++ s = str (wordL s.data.toList) :=
 ba_ext (by rw [ba_append, str_data]; unfold wordL; rw [if_pos h]; rfl)
theorem refWord_any (s : ByteArray) (w : World) (hs : s.size ≤ 900000000000) :
  Calls Tryd.prog 101 #[.string s] w fun e w' => e = .returned (.string (str (wordL s.data.toList))) ∧ Below w.heap.size w w' := by
 have hs1 : s.size ≤ 900000000000 := hs
 by_cases hk : kwd s.data.toList = 1
 ·obtain ⟨e1, e2, e3, e4⟩ := kwd_none hk
  have HK := LH hk; clear hk
  go_enter Tryd.func101, Tryd.ntmps101
  go_wp2
  clear e1 e2 e3 e4
  go_loopw [3, 4] (fun v i wr => WRel s w v i wr) (fun _ i _ => s.size - (intOf i).toNat)
  case atStart => exact ⟨0, by omega, rfl, OwnB.lit0 w (Nat.le_refl _), (Below.refl _ _).alloc (Nat.le_refl _) _⟩
  case round =>
   obtain ⟨k, hk, rfl, ho, hb⟩ := hrel
   have HO := LH ho; clear ho
   by_cases hlt : k < s.size
   ·go_wp2_with fail
    refine (escaped_any s[k] _ _).mono ?_
    rintro e w1 hR
    obtain ⟨x, rfl, hx, hb1⟩ := hR
    have HX := LH hx; clear hx
    have HO1 := LH (HO.out.below hb1)
    have hl := LH (lettersTo_length true s.data.toList k)
    have hl2 := LH (esc_length ((k : Int) == 0) s[k])
    have hBr := Nat.le_trans hb.size hb1.size
    go_wp2_with (at_builtin; refine OwnB.appendAll HO1.out HX.out rfl _ _ rfl rfl rfl hBr ?_ ?_)
    ·have := hl.out; have := hl2.out; omega
    ·intro v' w' h2 h3
     have H2 := LH h2; clear h2
     go_wp2
     go_roundw
     case rel =>
      refine ⟨k + 1, by omega, by go_num, ?_, (hb.trans (hb1.mono hb.size)).trans h3⟩
      rw [lettersTo, getD_byte s k hlt, Bool.true_and, show (k == 0) = ((k : Int) == 0) from by rw [Bool.eq_iff_iff]; simp]
      exact H2.out
     case measure => simp [intOf]; omega
   ·have he := LH (letters_end (first := true) hk hlt)
    have HC := LH HO.out.conv
    go_wp2_with fail
    simp only [HC.out, Result.andThen]
    go_wp2
    go_ret
    exact ⟨by rw [he.out]; unfold wordL; rw [if_neg (by rw [HK.out]; simp)]; rfl, hb⟩
 ·have HW := LH (word_kw hk)
  have hc := kwd_some hk
  clear hk
  rcases hc with e1 | ⟨e1, e2⟩ | ⟨e1, e2, e3⟩ | ⟨e1, e2, e3, e4⟩
  all_goals
   go_enter Tryd.func101, Tryd.ntmps101
   go_wp2
   go_ret
   exact ⟨by rw [← HW.out]; rfl, Below.refl _ _⟩
end Go.Proofs.YthcldpminmhgkaaDoor
end
