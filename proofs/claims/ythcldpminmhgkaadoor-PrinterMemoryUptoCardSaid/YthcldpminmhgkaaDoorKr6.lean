/- Merged for a claim by shake.py: Zp Zs Zt Lpat -/
import Derived.Test.YthcldpminmhgkaaDoorKrA
import Derived.Test.YthcldpminmhgkaaDoorKr1
import Derived.Test.YthcldpminmhgkaaDoorKr4
import Derived.Test.YthcldpminmhgkaaDoorKr5
set_option maxRecDepth 100000
set_option linter.unusedVariables false
set_option linter.unusedSimpArgs false
set_option maxHeartbeats 4000000
section
namespace Go.Proofs.YthcldpminmhgkaaDoor
theorem cls_bd' (c : UInt8) : 0 ≤ cls c ∧ cls c ≤ 4 := by
 have := all_bytes' (p := fun c => decide (0 ≤ cls c ∧ cls c ≤ 4)) (by decide +kernel) c
 exact of_decide_eq_true this
def dgS (l : List Sg) : List Sg := l.takeWhile fun x => !x.letter && isDg x.c
def capS (l : List Sg) : Nat := l.foldl (fun v x => min (10 * v + (x.c.toNat - 48)) 1099511627776) 0
def numS (l : List Sg) : Int := if (dgS l).length = 0 then -1 else if 999999999 < capS (dgS l) then -1 else (capS (dgS l) : Int)
theorem sg_ne {c : UInt8} (t : List UInt8) (p : Nat) (h : c ≠ 92) : signsFrom (c :: t) p = ⟨c, false, p, 1⟩ :: signsFrom t (p + 1) := signsFrom_ne t p h
theorem sg_es (d : UInt8) (t : List UInt8) (p : Nat) : signsFrom (92 :: d :: t) p = ⟨d, true, p, 2⟩ :: signsFrom t (p + 2) := by rw [signsFrom, if_pos rfl]
theorem dig_ne {c : UInt8} (h : isDg c = true) : c ≠ 92 := by intro e; subst e; exact absurd h (by decide)
theorem dgS_yes {c : UInt8} (t : List UInt8) (p : Nat) (h : isDg c = true) : dgS (signsFrom (c :: t) p) = ⟨c, false, p, 1⟩ :: dgS (signsFrom t (p + 1)) := by
 rw [sg_ne t p (dig_ne h)]; unfold dgS; rw [List.takeWhile_cons, h]; rfl
theorem dgS_no {c : UInt8} (t : List UInt8) (p : Nat) (h : isDg c = false) : dgS (signsFrom (c :: t) p) = [] := by
 by_cases h92 : c = 92
 ·subst h92
  cases t with
  | nil => rfl
  | cons d t => rw [sg_es]; unfold dgS; rw [List.takeWhile_cons]; rfl
 ·rw [sg_ne t p h92]; unfold dgS; rw [List.takeWhile_cons, h]; rfl
theorem dgS_eq : ∀ (t : List UInt8) (p : Nat), (dgS (signsFrom t p)).map (·.c) = digs t
 | [], p => rfl
 | c :: t, p => by
  unfold digs
  rw [List.takeWhile_cons]
  cases h : isDg c with
  | true => rw [dgS_yes t p h, List.map_cons, dgS_eq t (p + 1)]; rfl
  | false => rw [dgS_no t p h]; rfl
theorem dgS_len (t : List UInt8) (p : Nat) : (dgS (signsFrom t p)).length = (digs t).length := by rw [← dgS_eq t p, List.length_map]
theorem dgS_drop : ∀ (t : List UInt8) (p : Nat), (signsFrom t p).drop (digs t).length = signsFrom (t.drop (digs t).length) (p + (digs t).length)
 | [], p => rfl
 | c :: t, p => by
  cases h : isDg c with
  | true =>
   have e : digs (c :: t) = c :: digs t := by unfold digs; rw [List.takeWhile_cons, h]; rfl
   rw [e, List.length_cons, List.drop_succ_cons, sg_ne t p (dig_ne h), List.drop_succ_cons, dgS_drop t (p + 1), Nat.add_assoc, Nat.add_comm 1]
  | false =>
   have e : digs (c :: t) = [] := by unfold digs; rw [List.takeWhile_cons, h]; rfl
   rw [e]; rfl
theorem capS_map (l : List Sg) : capS l = (l.map (·.c)).foldl (fun v c => min (10 * v + (c.toNat - 48)) 1099511627776) 0 := by
 unfold capS; rw [List.foldl_map]
theorem caps (l : List UInt8) : ((l.foldl (fun v c => min (10 * v + (c.toNat - 48)) 1099511627776) 0) ≤ 999999999 ↔ ncap l ≤ 999999999) ∧ (ncap l ≤ 999999999 → l.foldl (fun v c => min (10 * v + (c.toNat - 48)) 1099511627776) 0 = ncap l) := by
 induction l using snoc_ind with
 | h0 => exact ⟨by simp [ncap], fun _ => rfl⟩
 | h1 l c ih =>
  rw [ncap_snoc, List.foldl_append]
  simp only [List.foldl_cons, List.foldl_nil]
  obtain ⟨h1, h2⟩ := ih
  rcases Nat.lt_or_ge 999999999 (ncap l) with h | h
  ·have h3 : ¬ (l.foldl (fun v c => min (10 * v + (c.toNat - 48)) 1099511627776) 0 ≤ 999999999) := fun h4 => by have := h1.1 h4; omega
   generalize l.foldl (fun v c => min (10 * v + (c.toNat - 48)) 1099511627776) 0 = a at *
   have := ncap_le l
   constructor <;> omega
  ·rw [h2 h]
   have := c.toNat_lt
   constructor <;> omega
theorem numS_eq (t : List UInt8) (p : Nat) : numS (signsFrom t p) = if numOkB t = true then (ncap (digs t) : Int) else -1 := by
 unfold numS numOkB
 rw [dgS_len, capS_map, dgS_eq]
 have h := caps (digs t)
 generalize (digs t).foldl (fun v c => min (10 * v + (c.toNat - 48)) 1099511627776) 0 = a at *
 by_cases h0 : (digs t).length = 0
 ·rw [if_pos h0, if_neg (by simp; omega)]
 ·rw [if_neg h0]
  by_cases h1 : ncap (digs t) ≤ 999999999
  ·have := h.2 h1
   rw [if_neg (by omega), if_pos (by simp; omega), this]
  ·have : ¬ a ≤ 999999999 := fun h4 => h1 (h.1.1 h4)
   rw [if_pos (by omega), if_neg (by simp; omega)]
def qS : List Sg → Option (List UInt8 × Nat)
 | [] => none
 | x :: r => if x.letter = false ∧ x.c = 34 then some ([], 1) else if x.letter = false ∧ x.c = 92 then none else (qS r).map fun y => (x.c :: y.1, y.2 + 1)
theorem qS_eq : ∀ (t : List UInt8) (p : Nat), match quotedL t with
  | none => qS (signsFrom t p) = none
  | some (x, n) => ∃ k, qS (signsFrom t p) = some (x, k) ∧ 1 ≤ k ∧ (signsFrom t p).drop k = signsFrom (t.drop n) (p + n)
 | [], p => rfl
 | [c], p => by
  by_cases h : c = 34
  ·subst h
   exact ⟨1, rfl, Nat.le_refl _, rfl⟩
  ·have e : quotedL [c] = none := by unfold quotedL; rw [if_neg h]
   rw [e]
   show qS (signsFrom [c] p) = none
   have e2 : signsFrom [c] p = [⟨c, false, p, 1⟩] := rfl
   rw [e2, qS, if_neg (fun h' => h h'.2)]
   split <;> rfl
 | c :: d :: t, p => by
  by_cases h34 : c = 34
  ·subst h34
   have e : quotedL (34 :: d :: t) = some ([], 1) := by rw [quotedL, if_pos rfl]
   rw [e]
   refine ⟨1, ?_, Nat.le_refl _, ?_⟩
   ·rw [sg_ne _ _ (by decide), qS, if_pos ⟨rfl, rfl⟩]
   ·rw [sg_ne _ _ (by decide)]; rfl
  ·by_cases h92 : c = 92
   ·subst h92
    have e : quotedL (92 :: d :: t) = (quotedL t).map (fun x => (d :: x.1, x.2 + 2)) := by rw [quotedL, if_neg (by decide), if_pos rfl]
    have ih := qS_eq t (p + 2)
    rw [e, sg_es, qS, if_neg (by simp), if_neg (by simp)]
    cases hq : quotedL t with
    | none => rw [hq] at ih; simp only [Option.map_none]; rw [ih]; rfl
    | some y =>
     rw [hq] at ih
     obtain ⟨k, h1, h2, h3⟩ := ih
     refine ⟨k + 1, ?_, by omega, ?_⟩
     ·rw [h1]; rfl
     ·rw [List.drop_succ_cons, h3]
      show signsFrom (t.drop y.2) (p + 2 + y.2) = signsFrom (t.drop y.2) (p + (y.2 + 2))
      congr 1; omega
   ·have e : quotedL (c :: d :: t) = (quotedL (d :: t)).map (fun x => (c :: x.1, x.2 + 1)) := by rw [quotedL, if_neg h34, if_neg h92]
    have ih := qS_eq (d :: t) (p + 1)
    rw [e, sg_ne _ _ h92, qS, if_neg (fun h => h34 h.2), if_neg (fun h => h92 h.2)]
    cases hq : quotedL (d :: t) with
    | none => rw [hq] at ih; simp only [Option.map_none]; rw [ih]; rfl
    | some y =>
     rw [hq] at ih
     obtain ⟨k, h1, h2, h3⟩ := ih
     refine ⟨k + 1, ?_, by omega, ?_⟩
     ·rw [h1]; rfl
     ·rw [List.drop_succ_cons, h3]
      show signsFrom ((d :: t).drop y.2) (p + 1 + y.2) = signsFrom ((c :: d :: t).drop (y.2 + 1)) (p + (y.2 + 1))
      rw [List.drop_succ_cons]
      congr 1; omega
def goesOn (x : Sg) : Bool := x.letter || (decide (cls x.c ≠ 1) && decide (cls x.c ≠ 2))
def rS : List Sg → Option (List Sg)
 | [] => some []
 | x :: r => if goesOn x = true then (if x.letter = false ∧ x.c = 92 then none else (rS r).map fun y => x :: y) else some []
def kwS (l : List Sg) : Int := if l.any (·.letter) = true then 1 else kwd (l.map (·.c))
theorem mem_kwd {l : List UInt8} (h : (92 : UInt8) ∈ l) : kwd l = 1 := by
 rcases kwd_1or l with h1 | rfl | rfl | rfl | rfl
 ·exact h1
 all_goals exact absurd h (by decide)
theorem cls_92_4 : cls 92 = 4 := by decide
theorem rS_eq : ∀ (t : List UInt8) (p : Nat), match runL t with
  | none => rS (signsFrom t p) = none
  | some rn => ∃ ds, rS (signsFrom t p) = some ds ∧ (ds.any wildSg = decide (0 < rn.wilds)) ∧ canOf ds = rn.pat ∧ (ds.any wildSg = false → ds.map (·.c) = rn.text) ∧ (signsFrom t p).drop ds.length = signsFrom (t.drop rn.len) (p + rn.len) ∧
    (ds.any (·.letter) = false → ds.map (·.c) = t.take rn.len) ∧ (ds.any (·.letter) = true → (92 : UInt8) ∈ t.take rn.len)
 | [], p => ⟨[], rfl, rfl, rfl, fun _ => rfl, rfl, fun _ => rfl, fun h => by cases h⟩
 | c :: t, p => by
  by_cases h12 : cls c = 1 ∨ cls c = 2
  ·have e : runL (c :: t) = some ⟨[], [], 0, 0⟩ := by cases t <;> (unfold runL; rw [if_pos h12])
   have h92 : c ≠ 92 := by intro h; subst h; rw [cls_92_4] at h12; rcases h12 with h | h <;> exact absurd h (by decide)
   have hg : goesOn ⟨c, false, p, 1⟩ = false := by unfold goesOn; rcases h12 with h | h <;> simp [h]
   rw [e, sg_ne t p h92]
   refine ⟨[], ?_, rfl, rfl, fun _ => rfl, (sg_ne t p h92).symm, fun _ => rfl, fun h => by cases h⟩
   rw [rS, hg]; rfl
  ·have hn1 : cls c ≠ 1 := fun h => h12 (.inl h)
   have hn2 : cls c ≠ 2 := fun h => h12 (.inr h)
   by_cases h92 : c = 92
   ·subst h92
    cases t with
    | nil => exact rfl
    | cons d t =>
     have e : runL (92 :: d :: t) = (runL t).map (Rn.add ⟨[d], pe d, 0, 2⟩) := runL_at_es d t
     have ih := rS_eq t (p + 2)
     have hg : goesOn ⟨d, true, p, 2⟩ = true := rfl
     rw [e, sg_es, rS, if_pos hg, if_neg (by simp)]
     cases hr : runL t with
     | none => rw [hr] at ih; simp only [Option.map_none]; rw [ih]; rfl
     | some y =>
      rw [hr] at ih
      obtain ⟨ds, h1, h2, h3, h4, h5, h6, h7⟩ := ih
      have hw : wildSg ⟨d, true, p, 2⟩ = false := rfl
      have hc : canSg ⟨d, true, p, 2⟩ = pe d := by
       unfold canSg pe
       by_cases hd : cls d = 3 ∨ cls d = 4
       ·rw [if_pos hd, if_pos ⟨rfl, hd.imp id (fun h => (cls_4 d).1 h)⟩]
       ·rw [if_neg hd, if_neg (fun h => hd (h.2.imp id (fun h' => (cls_4 d).2 h')))]
      refine ⟨⟨d, true, p, 2⟩ :: ds, by rw [h1]; rfl, ?_, ?_, ?_, ?_, fun h => by simp at h, fun _ => ?_⟩
      ·rw [List.any_cons, hw, h2]; simp [Rn.add]
      ·show canSg ⟨d, true, p, 2⟩ ++ canOf ds = pe d ++ y.pat
       rw [hc, h3]
      ·intro h
       rw [List.any_cons, hw, Bool.false_or] at h
       show d :: ds.map (·.c) = [d] ++ y.text
       rw [h4 h]; rfl
      ·rw [List.length_cons, List.drop_succ_cons, h5]
       show signsFrom (t.drop y.len) (p + 2 + y.len) = signsFrom ((92 :: d :: t).drop (2 + y.len)) (p + (2 + y.len))
       rw [show 2 + y.len = y.len + 1 + 1 from by omega, List.drop_succ_cons, List.drop_succ_cons]
       congr 1; omega
      ·show (92 : UInt8) ∈ (92 :: d :: t).take (2 + y.len)
       rw [show 2 + y.len = (y.len + 1) + 1 from by omega, List.take_succ_cons]
       exact List.mem_cons_self
   ·have hg : goesOn ⟨c, false, p, 1⟩ = true := by unfold goesOn; simp [hn1, hn2]
    have hn4 : cls c ≠ 4 := fun h => h92 ((cls_4 c).1 h)
    have hc : canSg ⟨c, false, p, 1⟩ = [c] := by unfold canSg; rw [if_neg (by simp)]
    have ih := rS_eq t (p + 1)
    rw [sg_ne t p h92, rS, if_pos hg, if_neg (fun h => h92 h.2)]
    by_cases h3 : cls c = 3
    ·have e : runL (c :: t) = (runL t).map (Rn.add ⟨[], [c], 1, 1⟩) := runL_at_wi c t h3
     have hw : wildSg ⟨c, false, p, 1⟩ = true := by unfold wildSg; simp [h3]
     rw [e]
     cases hr : runL t with
     | none => rw [hr] at ih; simp only [Option.map_none]; rw [ih]; rfl
     | some y =>
      rw [hr] at ih
      obtain ⟨ds, g1, g2, g3, g4, g5, g6, g7⟩ := ih
      refine ⟨⟨c, false, p, 1⟩ :: ds, by rw [g1]; rfl, ?_, ?_, ?_, ?_, ?_, ?_⟩
      ·rw [List.any_cons, hw, Bool.true_or]; exact (decide_eq_true (show 0 < 1 + y.wilds by omega)).symm
      ·show canSg ⟨c, false, p, 1⟩ ++ canOf ds = [c] ++ y.pat
       rw [hc, g3]
      ·intro h; rw [List.any_cons, hw] at h; cases h
      ·rw [List.length_cons, List.drop_succ_cons, g5]
       show signsFrom (t.drop y.len) (p + 1 + y.len) = signsFrom ((c :: t).drop (1 + y.len)) (p + (1 + y.len))
       rw [Nat.add_comm 1 y.len, List.drop_succ_cons]
       congr 1; omega
      ·intro h
       rw [List.any_cons, Bool.false_or] at h
       show c :: ds.map (·.c) = (c :: t).take (1 + y.len)
       rw [Nat.add_comm 1 y.len, List.take_succ_cons, g6 h]
      ·intro h
       rw [List.any_cons, Bool.false_or] at h
       show (92 : UInt8) ∈ (c :: t).take (1 + y.len)
       rw [Nat.add_comm 1 y.len, List.take_succ_cons]
       exact List.mem_cons_of_mem _ (g7 h)
    ·have h0 : cls c = 0 := by have := cls_bd' c; omega
     have e : runL (c :: t) = (runL t).map (Rn.add ⟨[c], [c], 0, 1⟩) := runL_at_pl c t h0
     have hw : wildSg ⟨c, false, p, 1⟩ = false := by unfold wildSg; simp [h3]
     rw [e]
     cases hr : runL t with
     | none => rw [hr] at ih; simp only [Option.map_none]; rw [ih]; rfl
     | some y =>
      rw [hr] at ih
      obtain ⟨ds, g1, g2, g3, g4, g5, g6, g7⟩ := ih
      refine ⟨⟨c, false, p, 1⟩ :: ds, by rw [g1]; rfl, ?_, ?_, ?_, ?_, ?_, ?_⟩
      ·rw [List.any_cons, hw, g2]; simp [Rn.add]
      ·show canSg ⟨c, false, p, 1⟩ ++ canOf ds = [c] ++ y.pat
       rw [hc, g3]
      ·intro h
       rw [List.any_cons, hw, Bool.false_or] at h
       show c :: ds.map (·.c) = [c] ++ y.text
       rw [g4 h]; rfl
      ·rw [List.length_cons, List.drop_succ_cons, g5]
       show signsFrom (t.drop y.len) (p + 1 + y.len) = signsFrom ((c :: t).drop (1 + y.len)) (p + (1 + y.len))
       rw [Nat.add_comm 1 y.len, List.drop_succ_cons]
       congr 1; omega
      ·intro h
       rw [List.any_cons, Bool.false_or] at h
       show c :: ds.map (·.c) = (c :: t).take (1 + y.len)
       rw [Nat.add_comm 1 y.len, List.take_succ_cons, g6 h]
      ·intro h
       rw [List.any_cons, Bool.false_or] at h
       show (92 : UInt8) ∈ (c :: t).take (1 + y.len)
       rw [Nat.add_comm 1 y.len, List.take_succ_cons]
       exact List.mem_cons_of_mem _ (g7 h)
termination_by t => t.length
def oneS : List Sg → Option (Int × List UInt8 × Int × Nat)
 | [] => none
 | x :: r =>
  if x.letter = false ∧ singleK x.c ≠ 0 then some (singleK x.c, [], 0, 1)
  else if x.letter = false ∧ x.c = 64 then (if numS r < 0 then none else some (21, [], numS r, 1 + (dgS r).length))
  else if x.letter = false ∧ x.c = 94 then
   (match r with
    | [] => none
    | y :: r2 => if y.letter = false ∧ y.c = 61 then (if numS r2 < 0 then none else some (19, [], numS r2, 2 + (dgS r2).length)) else (if numS (y :: r2) < 0 then none else some (18, [], numS (y :: r2), 1 + (dgS (y :: r2)).length)))
  else if x.letter = false ∧ x.c = 126 then (if numS r < 0 ∧ 0 < (dgS r).length then none else some (20, [], numS r, 1 + (dgS r).length))
  else if x.letter = false ∧ x.c = 34 then (match qS r with
    | none => none
    | some y => some (3, y.1, 0, 1 + y.2))
  else (match rS (x :: r) with
    | none => none
    | some ds => if kwS ds ≠ 1 then some (kwS ds, [], 0, ds.length) else if ds.any wildSg = true then some (2, canOf ds, 0, ds.length) else some (1, ds.map (·.c), 0, ds.length))
theorem oneS_cons (x : Sg) (r : List Sg) : oneS (x :: r) = (
  if x.letter = false ∧ singleK x.c ≠ 0 then some (singleK x.c, [], 0, 1)
  else if x.letter = false ∧ x.c = 64 then (if numS r < 0 then none else some (21, [], numS r, 1 + (dgS r).length))
  else if x.letter = false ∧ x.c = 94 then
   (match r with
    | [] => none
    | y :: r2 => if y.letter = false ∧ y.c = 61 then (if numS r2 < 0 then none else some (19, [], numS r2, 2 + (dgS r2).length)) else (if numS (y :: r2) < 0 then none else some (18, [], numS (y :: r2), 1 + (dgS (y :: r2)).length)))
  else if x.letter = false ∧ x.c = 126 then (if numS r < 0 ∧ 0 < (dgS r).length then none else some (20, [], numS r, 1 + (dgS r).length))
  else if x.letter = false ∧ x.c = 34 then (match qS r with
    | none => none
    | some y => some (3, y.1, 0, 1 + y.2))
  else (match rS (x :: r) with
    | none => none
    | some ds => if kwS ds ≠ 1 then some (kwS ds, [], 0, ds.length) else if ds.any wildSg = true then some (2, canOf ds, 0, ds.length) else some (1, ds.map (·.c), 0, ds.length))) := rfl
theorem wild_kw {ds : List Sg} (h : ds.any wildSg = true) : kwS ds = 1 := by
 unfold kwS
 split
 ·rfl
 ·obtain ⟨x, hx, hw⟩ := List.any_eq_true.1 h
  rcases kwd_1or (ds.map (·.c)) with h1 | h1
  ·exact h1
  ·have hc : x.c ∈ ds.map (·.c) := List.mem_map.2 ⟨x, hx, rfl⟩
   have h3 : cls x.c = 3 := by
    unfold wildSg at hw
    simp only [Bool.and_eq_true, decide_eq_true_eq] at hw
    exact hw.2
   rcases h1 with h1 | h1 | h1 | h1
   ·rw [h1] at hc; exact absurd h3 ((by decide : ∀ z ∈ [65, 78, 68], cls z ≠ 3) x.c hc)
   ·rw [h1] at hc; exact absurd h3 ((by decide : ∀ z ∈ [79, 82], cls z ≠ 3) x.c hc)
   ·rw [h1] at hc; exact absurd h3 ((by decide : ∀ z ∈ [78, 79, 84], cls z ≠ 3) x.c hc)
   ·rw [h1] at hc; exact absurd h3 ((by decide : ∀ z ∈ [84, 79], cls z ≠ 3) x.c hc)
theorem run_pos {x : Sg} {r ds : List Sg} (h : rS (x :: r) = some ds) (hg : goesOn x = true) : 1 ≤ ds.length := by
 rw [rS, if_pos hg] at h
 split at h
 ·cases h
 ·obtain ⟨y, _, rfl⟩ := Option.map_eq_some_iff.1 h
  simp
theorem single_ne {c : UInt8} (h : singleK c ≠ 0) : c ≠ 92 := by intro e; subst e; exact absurd rfl h
theorem runTk_eq (t : List UInt8) (p : Nat) : match runTk t with
  | none => rS (signsFrom t p) = none
  | some tk => ∃ ds, rS (signsFrom t p) = some ds ∧ (if kwS ds ≠ 1 then (kwS ds, ([] : List UInt8), (0 : Int)) else if ds.any wildSg = true then (2, canOf ds, 0) else (1, ds.map (·.c), 0)) = (tk.kind, tk.text, tk.n) ∧ (signsFrom t p).drop ds.length = signsFrom (t.drop tk.len) (p + tk.len) := by
 have ih := rS_eq t p
 unfold runTk
 cases hr : runL t with
 | none => rw [hr] at ih; exact ih
 | some rn =>
  rw [hr] at ih
  obtain ⟨ds, h1, h2, h3, h4, h5, h6, h7⟩ := ih
  simp only [Option.map_some]
  have hk : kwS ds = kwd (t.take rn.len) := by
   unfold kwS
   by_cases hl : ds.any (·.letter) = true
   ·rw [if_pos hl, mem_kwd (h7 hl)]
   ·rw [if_neg hl, h6 (by simpa using hl)]
  by_cases hw : 0 < rn.wilds
  ·have hwb : ds.any wildSg = true := by rw [h2]; exact decide_eq_true hw
   rw [if_pos hw]
   exact ⟨ds, h1, by rw [if_neg (fun h => h (wild_kw hwb)), if_pos hwb, h3], h5⟩
  ·have hwb : ds.any wildSg = false := by rw [h2]; exact decide_eq_false hw
   rw [if_neg hw]
   refine ⟨ds, h1, ?_, h5⟩
   rw [hk, hwb]
   by_cases hk1 : kwd (t.take rn.len) = 1
   ·simp only [hk1, ne_eq, not_true_eq_false, if_false, Bool.false_eq_true, if_true]
    rw [h4 hwb]
   ·rw [if_pos hk1, if_neg hk1]
theorem oneS_eq (c : UInt8) (t : List UInt8) (p : Nat) (hb : cls c ≠ 1) : match tokOf (c :: t) with
  | none => oneS (signsFrom (c :: t) p) = none
  | some tk => ∃ k, oneS (signsFrom (c :: t) p) = some (tk.kind, tk.text, tk.n, k) ∧ 1 ≤ k ∧ (signsFrom (c :: t) p).drop k = signsFrom ((c :: t).drop tk.len) (p + tk.len) := by
 have hnum : ∀ (kind : Int) (u : List UInt8) (q m : Nat) (s0 : List Sg) (t0 : List UInt8), s0.drop m = signsFrom u q → t0.drop m = u → q = p + m → 1 ≤ m →
   match numTk kind u m with
   | none => numS (signsFrom u q) < 0
   | some tk => ¬ numS (signsFrom u q) < 0 ∧ tk.kind = kind ∧ tk.text = [] ∧ tk.n = numS (signsFrom u q) ∧ s0.drop (m + (dgS (signsFrom u q)).length) = signsFrom (t0.drop tk.len) (p + tk.len) := by
  intro kind u q m s0 t0 h1 h2 h3 h4
  unfold numTk
  rw [numS_eq]
  cases hn : numOkB u with
  | false => simp
  | true =>
   simp only [if_true]
   refine ⟨by omega, trivial, trivial, trivial, ?_⟩
   rw [← List.drop_drop, h1, dgS_len, dgS_drop, ← List.drop_drop, h2, h3, Nat.add_assoc]
 by_cases hs : singleK c ≠ 0
 ·have e : tokOf (c :: t) = some ⟨singleK c, [], 0, 1⟩ := by rw [tokOf, if_pos hs]
  rw [e, sg_ne t p (single_ne hs)]
  exact ⟨1, by rw [oneS_cons, if_pos ⟨rfl, hs⟩], Nat.le_refl _, rfl⟩
 ·by_cases h92 : c = 92
  ·-- an escape
   subst h92
   have e : tokOf (92 :: t) = runTk (92 :: t) := tokOf_run t (by decide) (by decide) (by decide) (by decide) (by decide)
   have ih := runTk_eq (92 :: t) p
   have hone : oneS (signsFrom (92 :: t) p) = (match rS (signsFrom (92 :: t) p) with
    | none => none
    | some ds => if kwS ds ≠ 1 then some (kwS ds, [], 0, ds.length) else if ds.any wildSg = true then some (2, canOf ds, 0, ds.length) else some (1, ds.map (·.c), 0, ds.length)) := by
    cases t with
    | nil => rfl
    | cons d t =>
     rw [sg_es, oneS_cons]
     simp only [Bool.true_eq_false, false_and, if_false]
   have hpos : ∀ ds, rS (signsFrom (92 :: t) p) = some ds → 1 ≤ ds.length := by
    intro ds h
    cases t with
    | nil => cases h
    | cons d t => rw [sg_es] at h; exact run_pos h rfl
   rw [e, hone]
   cases hr : runTk (92 :: t) with
   | none => rw [hr] at ih; rw [ih]
   | some tk =>
    rw [hr] at ih
    obtain ⟨ds, h1, h2, h3⟩ := ih
    refine ⟨ds.length, ?_, hpos ds h1, h3⟩
    rw [h1]
    simp only []
    split at h2
    ·rename_i hk; rw [if_pos hk]; simp only [Prod.mk.injEq] at h2; rw [h2.1, ← h2.2.1, ← h2.2.2]
    ·rename_i hk
     rw [if_neg hk]
     split at h2
     ·rename_i hw; rw [if_pos hw]; simp only [Prod.mk.injEq] at h2; rw [← h2.1, h2.2.1, ← h2.2.2]
     ·rename_i hw; rw [if_neg hw]; simp only [Prod.mk.injEq] at h2; rw [← h2.1, h2.2.1, ← h2.2.2]
  ·have hsg := sg_ne t p h92
   by_cases h34 : c = 34
   ·subst h34
    have e : tokOf (34 :: t) = (quotedL t).map fun x => ⟨3, x.1, 0, x.2 + 1⟩ := by rw [tokOf, if_neg hs, if_pos rfl]
    have ih := qS_eq t (p + 1)
    rw [e, hsg, oneS_cons]
    simp only [hs, and_false, if_false, true_and, show ¬ ((34 : UInt8) = 64) from by decide, show ¬ ((34 : UInt8) = 94) from by decide, show ¬ ((34 : UInt8) = 126) from by decide, if_true]
    cases hq : quotedL t with
    | none => rw [hq] at ih; simp only [Option.map_none]; rw [ih]
    | some y =>
     rw [hq] at ih
     obtain ⟨k, h1, h2, h3⟩ := ih
     simp only [Option.map_some]
     refine ⟨1 + k, by rw [h1], by omega, ?_⟩
     rw [Nat.add_comm 1 k, List.drop_succ_cons, h3, List.drop_succ_cons]
     congr 1; omega
   ·by_cases h94 : c = 94
    ·subst h94
     have hone := hsg
     cases t with
     | nil =>
      have e : tokOf [94] = none := by decide
      rw [e]; rfl
     | cons d t =>
      by_cases h61 : d = 61
      ·subst h61
       have e : tokOf (94 :: 61 :: t) = numTk 19 t 2 := by rw [tokOf, if_neg hs, if_neg (by decide), if_pos rfl]; rfl
       have hh := hnum 19 t (p + 2) 2 (signsFrom (94 :: 61 :: t) p) (94 :: 61 :: t) (by rw [hsg, sg_ne t (p + 1) (by decide)]; rfl) rfl rfl (by decide)
       rw [e, hsg, sg_ne t (p + 1) (by decide), oneS_cons]
       rw [hsg, sg_ne t (p + 1) (by decide)] at hh
       simp only [hs, and_false, if_false, true_and, show ¬ ((94 : UInt8) = 64) from by decide, if_true]
       cases hn : numTk 19 t 2 with
       | none => rw [hn] at hh; simp only [] at hh ⊢; rw [if_pos hh]
       | some tk =>
        rw [hn] at hh
        simp only [] at hh ⊢
        obtain ⟨g1, g2, g3, g4, g5⟩ := hh
        exact ⟨_, by rw [if_neg g1, g2, g3, g4], by omega, g5⟩
      ·have e : tokOf (94 :: d :: t) = numTk 18 (d :: t) 1 := by rw [tokOf, if_neg hs, if_neg (by decide), if_pos rfl]; simp [h61]
       have hh := hnum 18 (d :: t) (p + 1) 1 (signsFrom (94 :: d :: t) p) (94 :: d :: t) (by rw [hsg]; rfl) rfl rfl (by decide)
       rw [e, hsg, oneS_cons]
       rw [hsg] at hh
       simp only [hs, and_false, if_false, true_and, show ¬ ((94 : UInt8) = 64) from by decide, if_true]
       have hx : ∃ y r2, signsFrom (d :: t) (p + 1) = y :: r2 ∧ ¬ (y.letter = false ∧ y.c = 61) := by
        by_cases hd : d = 92
        ·subst hd
         cases t with
         | nil => exact ⟨_, _, rfl, by simp⟩
         | cons z t => exact ⟨_, _, sg_es z t (p + 1), by simp⟩
        ·exact ⟨_, _, sg_ne t (p + 1) hd, fun h => h61 h.2⟩
       obtain ⟨y, r2, hy, hny⟩ := hx
       rw [hy] at hh ⊢
       simp only []
       rw [if_neg hny]
       cases hn : numTk 18 (d :: t) 1 with
       | none => rw [hn] at hh; simp only [] at hh ⊢; rw [if_pos hh]
       | some tk =>
        rw [hn] at hh
        simp only [] at hh ⊢
        obtain ⟨g1, g2, g3, g4, g5⟩ := hh
        exact ⟨_, by rw [if_neg g1, g2, g3, g4], by omega, g5⟩
    ·by_cases h126 : c = 126
     ·subst h126
      rw [hsg, oneS_cons]
      simp only [hs, and_false, if_false, true_and, show ¬ ((126 : UInt8) = 64) from by decide, show ¬ ((126 : UInt8) = 94) from by decide, if_true]
      by_cases hd : digs t = []
      ·have e : tokOf (126 :: t) = some ⟨20, [], -1, 1⟩ := by rw [tokOf, if_neg hs, if_neg (by decide), if_neg (by decide), if_pos rfl, if_pos hd]
       have hl : (dgS (signsFrom t (p + 1))).length = 0 := by rw [dgS_len, hd]; rfl
       have hn : numS (signsFrom t (p + 1)) = -1 := by unfold numS; rw [if_pos hl]
       rw [e, hl, hn, if_neg (by omega)]
       exact ⟨1, rfl, Nat.le_refl _, rfl⟩
      ·have e : tokOf (126 :: t) = numTk 20 t 1 := by rw [tokOf, if_neg hs, if_neg (by decide), if_neg (by decide), if_pos rfl, if_neg hd]
       have hl : 0 < (dgS (signsFrom t (p + 1))).length := by rw [dgS_len]; exact List.length_pos_iff.2 hd
       have hh := hnum 20 t (p + 1) 1 (⟨126, false, p, 1⟩ :: signsFrom t (p + 1)) (126 :: t) rfl rfl rfl (by decide)
       rw [e]
       cases hn : numTk 20 t 1 with
       | none => rw [hn] at hh; simp only [] at hh ⊢; rw [if_pos ⟨hh, hl⟩]
       | some tk =>
        rw [hn] at hh
        simp only [] at hh ⊢
        obtain ⟨g1, g2, g3, g4, g5⟩ := hh
        exact ⟨_, by rw [if_neg (fun h => g1 h.1), g2, g3, g4], by omega, g5⟩
     ·by_cases h64 : c = 64
      ·subst h64
       have e : tokOf (64 :: t) = numTk 21 t 1 := by rw [tokOf, if_neg hs, if_neg (by decide), if_neg (by decide), if_neg (by decide), if_pos rfl]
       have hh := hnum 21 t (p + 1) 1 (⟨64, false, p, 1⟩ :: signsFrom t (p + 1)) (64 :: t) rfl rfl rfl (by decide)
       rw [e, hsg, oneS_cons]
       simp only [hs, and_false, if_false, true_and, if_true]
       cases hn : numTk 21 t 1 with
       | none => rw [hn] at hh; simp only [] at hh ⊢; rw [if_pos hh]
       | some tk =>
        rw [hn] at hh
        simp only [] at hh ⊢
        obtain ⟨g1, g2, g3, g4, g5⟩ := hh
        exact ⟨_, by rw [if_neg g1, g2, g3, g4], by omega, g5⟩
      ·have hs0 : singleK c = 0 := Classical.byContradiction fun h => hs h
       have hc2 : cls c ≠ 2 := cls_mark hs0 h34 h94 h126 h64
       have e : tokOf (c :: t) = runTk (c :: t) := tokOf_run t hs0 h34 h94 h126 h64
       have ih := runTk_eq (c :: t) p
       have hg : goesOn ⟨c, false, p, 1⟩ = true := by unfold goesOn; simp [hb, hc2]
       rw [hsg] at ih
       rw [e, hsg, oneS_cons]
       simp only [hs, and_false, if_false, true_and, h64, h94, h126, h34]
       cases hr : runTk (c :: t) with
       | none => rw [hr] at ih; simp only [] at ih ⊢; rw [ih]
       | some tk =>
        rw [hr] at ih
        obtain ⟨ds, h1, h2, h3⟩ := ih
        simp only []
        refine ⟨ds.length, ?_, run_pos h1 hg, h3⟩
        rw [h1]
        simp only []
        split at h2
        ·rename_i hk; rw [if_pos hk]; simp only [Prod.mk.injEq] at h2; rw [h2.1, ← h2.2.1, ← h2.2.2]
        ·rename_i hk
         rw [if_neg hk]
         split at h2
         ·rename_i hw; rw [if_pos hw]; simp only [Prod.mk.injEq] at h2; rw [← h2.1, h2.2.1, ← h2.2.2]
         ·rename_i hw; rw [if_neg hw]; simp only [Prod.mk.injEq] at h2; rw [← h2.1, h2.2.1, ← h2.2.2]
end Go.Proofs.YthcldpminmhgkaaDoor
end
section
namespace Go.Proofs.YthcldpminmhgkaaDoor
open Go.RowKit
structure OneB (w : World) (k t n p e : Value) (wx : World) : Prop where
 b0 : Blk5 wx w.heap.size (.int .i64 0) (.string ⟨#[]⟩) (.int .i64 0) (.int .i64 0) (.int .i64 0)
 b1 : Blk5 wx (w.heap.size + 1) k t n p e
 bel : Below w.heap.size w wx
theorem OneB.belowW {w : World} {k t n p e : Value} {wx wy : World} (h : OneB w k t n p e wx) (hb : Below wx.heap.size wx wy) : OneB w k t n p e wy :=
 ⟨h.b0.below hb h.b0.lt, h.b1.below hb h.b1.lt, h.bel.trans (hb.mono (by have := h.b0.lt; omega))⟩
theorem sg_nil {t : List UInt8} {q : Nat} (h : signsFrom t q = []) : t = [] := by
 match t, h with
 | [], _ => rfl
 | [c], h => exact absurd h (by simp [signsFrom])
 | c :: d :: t, h =>
  by_cases h92 : c = 92
  ·subst h92; rw [sg_es] at h; cases h
  ·rw [sg_ne _ _ h92] at h; cases h
theorem sg_head {t : List UInt8} {q : Nat} {x : Sg} {r : List Sg} (h : signsFrom t q = x :: r) : x.place = q ∧ 1 ≤ t.length := by
 match t, h with
 | [], h => exact absurd h (by simp [signsFrom])
 | [c], h => cases h; exact ⟨rfl, Nat.le_refl _⟩
 | c :: d :: t, h =>
  by_cases h92 : c = 92
  ·subst h92; rw [sg_es] at h; cases h; exact ⟨rfl, by simp⟩
  ·rw [sg_ne _ _ h92] at h; cases h; exact ⟨rfl, by simp⟩
structure SgPos (s : ByteArray) (i p : Nat) : Prop where
 le : p ≤ s.size
 eq : (signs s.data.toList).drop i = signsFrom (s.data.toList.drop p) p
section
variable {s : ByteArray} {i p : Nat} {x : Sg}
theorem SgPos.lt (h : SgPos s i p) (hi : i < (signs s.data.toList).length) : p < s.size := by
 have h1 := h.eq
 rw [List.drop_eq_getElem_cons hi] at h1
 have h2 := (sg_head h1.symm).2
 rw [List.length_drop, ← ba_size] at h2
 omega
theorem SgPos.stop (h : SgPos s i p) (hi : ¬ i < (signs s.data.toList).length) : ¬ p < s.size := by
 have h1 := h.eq
 rw [List.drop_eq_nil_of_le (by omega)] at h1
 have h2 := sg_nil h1.symm
 rw [List.drop_eq_nil_iff, ← ba_size] at h2
 omega
theorem SgPos.place (h : SgPos s i p) (hx : (signs s.data.toList)[i]? = some x) : x.place = p := by
 obtain ⟨hi, rfl⟩ := List.getElem?_eq_some_iff.1 hx
 have h1 := h.eq
 rw [List.drop_eq_getElem_cons hi] at h1
 exact (sg_head h1.symm).1
theorem SgPos.blank (h : SgPos s i p) (hp : p < s.size) (hc : cls s[p] = 1) (hx : (signs s.data.toList)[i]? = some x) : x.letter = false ∧ x.c = s[p] ∧ SgPos s (i + 1) (p + 1) := by
 obtain ⟨hi, rfl⟩ := List.getElem?_eq_some_iff.1 hx
 have h92 : s[p] ≠ 92 := by intro e; rw [e] at hc; exact absurd hc (by decide)
 have h1 := h.eq
 rw [List.drop_eq_getElem_cons hi, dropB s hp, sg_ne _ _ h92] at h1
 injection h1 with h1 h2
 refine ⟨by rw [h1], by rw [h1], by omega, h2⟩
theorem SgPos.none (h : SgPos s i p) (hp : p < s.size) (hc : cls s[p] ≠ 1) (ho : oneS ((signs s.data.toList).drop i) = none) : sTok s p = none := by
 rw [h.eq, dropB s hp] at ho
 have h1 := oneS_eq s[p] (s.data.toList.drop (p + 1)) p hc
 unfold sTok
 rw [dropB s hp]
 cases ht : tokOf (s[p] :: s.data.toList.drop (p + 1)) with
 | none => rfl
 | some tk =>
  rw [ht] at h1
  obtain ⟨k, h2, h3, h4⟩ := h1
  rw [h2] at ho; cases ho
end
def CRel (l : List Sg) (w : World) (vs : Value) (v i : Value) (wr : World) : Prop :=
 ∃ k : Nat, k ≤ l.length ∧ i = .int .i64 k ∧ OwnB wr w.heap.size v (canOf (l.take k)) ∧ (l.take k).any badSg = false ∧ Below w.heap.size w wr ∧ OwnL sgShape wr w.heap.size vs l
def CanRet (l : List Sg) (w : World) (e : Ending) (w' : World) : Prop :=
 (e = .returned (if l.any badSg then .tuple #[.string ByteArray.empty, .bool false] else .tuple #[.string (str (canOf l)), .bool true])) ∧ Below w.heap.size w w'
theorem canon_any (s : ByteArray) (w : World) (hs : s.size ≤ 900000000000) :
  Calls Tryd.prog 114 #[.string s] w (CanRet (signs s.data.toList) w) := by
 have hsl := signs_length s.data.toList
 rw [← ba_size] at hsl
 go_enter Tryd.func114, Tryd.ntmps114
 go_wp2_with fail
 refine (signs_any s _ hs).mono ?_
 rintro e w1 hR
 obtain ⟨v, rfl, ho, hb1⟩ := hR
 obtain ⟨A, cap, rfl, hcap, hml, _⟩ := ho.open_
 generalize signs s.data.toList = l at *
 have hl : l.length ≤ 900000000000 := by omega
 clear hsl hs
 have HL := LH (ho.more (B2 := w.heap.size) (by simp)); clear ho
 unfold maxLen at hml
 go_wp2
 go_loopw [4, 11] (fun v i wr => CRel l w (.slice A l.length cap) v i wr) (fun _ i _ => l.length - (intOf i).toNat)
 case atStart => exact ⟨0, by omega, rfl, (OwnB.lit0 w (Nat.le_refl _)).below hb1, rfl, (((Below.refl _ _).alloc (Nat.le_refl _) _).trans (hb1.mono (by simp))), HL.out⟩
 case round =>
  obtain ⟨k, hk, rfl, hob, hnb, hb, how⟩ := hrel
  have HB := LH hob; clear hob
  have HNB := LH hnb; clear hnb
  have HW := LH how; clear how
  have hBr := hb.size
  have hlq : (canOf (l.take k)).length ≤ 1800000000000 := by have := canOf_length (l.take k); have := List.length_take_le k l; omega
  by_cases hlt : k < l.length
  ·obtain ⟨g, hA, hx⟩ := HW.out.at_ sgOk hlt
   subst hA
   have c0 : wr.cell? ⟨g, k * 4, none⟩ = some (.int .u8 (l[k].c.toNat : Int)) := hx 0 _ (by decide) rfl
   have c1 : wr.cell? ⟨g, k * 4 + 1, none⟩ = some (.bool l[k].letter) := hx 1 _ (by decide) rfl
   have c2 : wr.cell? ⟨g, k * 4 + 2, none⟩ = some (.int .i64 l[k].place) := hx 2 _ (by decide) rfl
   have c3 : wr.cell? ⟨g, k * 4 + 3, none⟩ = some (.int .i64 l[k].size) := hx 3 _ (by decide) rfl
   clear hx
   have HT := LH (take_snoc' l k hlt)
   have HBD : Hid (badSg l[k] = true → l.any badSg = true) := fun h => any_bad hlt h
   generalize l[k] = x at *
   obtain ⟨c, lt, pl, sz⟩ := x
   have e92 := e92_cls c
   have hbx := u8_lt c
   cases lt
   ·by_cases h92 : cls c = 4
    ·have HQ : Hid (badSg ⟨c, false, pl, sz⟩ = true) := by
      have := beq_iff_eq.1 (esc_cls c)
      show (!false && c == 92) = true
      rw [this, h92]; rfl
     go_wp2
     go_ret2
     exact ⟨by rw [if_pos (HBD.out HQ.out)]; rfl, hb.alloc hb.size _⟩
    ·have h92b : ((c.toNat : Int) == 92) = false := by rw [e92]; simpa using h92
     clear e92
     have HQ : Hid (badSg ⟨c, false, pl, sz⟩ = false) := by
      have := beq_iff_eq.1 (esc_cls c)
      show (!false && c == 92) = false
      rw [this]; simpa using h92
     clear h92
     have hbA := hb.alloc hb.size (.cells #[.int .u8 (c.toNat : Int), .bool false, .int .i64 pl, .int .i64 sz] 133)
     have HWA := LH (HW.out.alloc (.cells #[.int .u8 (c.toNat : Int), .bool false, .int .i64 pl, .int .i64 sz] 133))
     have HBA := LH (HB.out.alloc (.cells #[.int .u8 (c.toNat : Int), .bool false, .int .i64 pl, .int .i64 sz] 133))
     go_wp2_with (at_builtin; refine OwnB.appendAt HBA.out _ _ rfl _ _ rfl rfl rfl ?_ ?_ ?_ hbA.size ?_ ?_)
     all_goals first | omega | exact (World.size_alloc ..).symm | skip
     intro v' w' h2 h3 h3k
     have H2 := LH h2
     have HW2 := LH (HWA.out.keptB HBA.out (by decide) h3k)
     clear h2 h3k
     go_wp2
     go_roundw
     case rel =>
      refine ⟨k + 1, by omega, by go_num, ?_, ?_, hbA.trans h3, HW2.out⟩
      ·rw [HT.out, canOf_snoc]
       simpa [ofNat_byte, canSg] using H2.out
      ·rw [HT.out, List.any_append, HNB.out]; simpa using HQ.out
     case measure => simp [intOf]; omega
   ·clear e92
    have hbA := hb.alloc hb.size (.cells #[.int .u8 (c.toNat : Int), .bool true, .int .i64 pl, .int .i64 sz] 133)
    have HWA := LH (HW.out.alloc (.cells #[.int .u8 (c.toNat : Int), .bool true, .int .i64 pl, .int .i64 sz] 133))
    have HBA := LH (HB.out.alloc (.cells #[.int .u8 (c.toNat : Int), .bool true, .int .i64 pl, .int .i64 sz] 133))
    have HQ : Hid (badSg ⟨c, true, pl, sz⟩ = false) := rfl
    have hcases : (decide (cls c = 3) = true ∧ canSg ⟨c, true, pl, sz⟩ = [92, c]) ∨ (decide (cls c = 3) = false ∧ ((c.toNat : Int) == 92) = true ∧ canSg ⟨c, true, pl, sz⟩ = [92, c]) ∨ (decide (cls c = 3) = false ∧ ((c.toNat : Int) == 92) = false ∧ canSg ⟨c, true, pl, sz⟩ = [c]) := by
     rw [show ((c.toNat : Int) == 92) = (c == 92) from byte_beq c 92]
     unfold canSg
     by_cases h3 : cls c = 3 <;> by_cases h4 : c = 92 <;> simp_all
    rcases hcases with ⟨g1, g2⟩ | ⟨g1, g3, g2⟩ | ⟨g1, g3, g2⟩
    ·have HX := LH g2; clear g2
     go_wp2_with fail
     refine (wild_any c _).mono ?_
     rintro e w2 ⟨rfl, rfl⟩
     go_wp2_with (at_builtin; refine OwnB.appendAt HBA.out _ _ rfl _ _ rfl rfl rfl ?_ ?_ ?_ hbA.size ?_ ?_)
     all_goals first | omega | exact (World.size_alloc ..).symm | skip
     intro v' w' h2 h3 h3k
     have H2 := LH h2; clear h2
     have hbB := hbA.trans h3
     have HW2 := LH (HWA.out.keptB HBA.out (by decide) h3k)
     have hcc : w'.cell? ⟨wr.heap.size, 0, none⟩ = some (.int .u8 (c.toNat : Int)) := by
      rw [h3k.cell (by simp) (HB.out.ne_new (Nat.le_refl _))]
      exact World.cell?_alloc_new wr _ _ 0
     clear h3k
     go_wp2_with (at_builtin; refine OwnB.appendAt H2.out _ _ rfl _ _ rfl rfl rfl ?_ ?_ ?_ hbB.size ?_ ?_)
     all_goals first | omega | exact (World.size_alloc ..).symm | (rw [List.length_append, List.length_singleton]; omega) | skip
     intro v2 w2 h4 h5 h5k
     have H4 := LH h4
     have HW4 := LH (HW2.out.keptB H2.out (by decide) h5k)
     clear h4 h5k
     go_wp2
     go_roundw
     case rel =>
      refine ⟨k + 1, by omega, by go_num, ?_, ?_, hbB.trans h5, HW4.out⟩
      ·rw [HT.out, canOf_snoc, HX.out]
       simpa [ofNat_byte] using H4.out
      ·rw [HT.out, List.any_append, HNB.out]; simpa using HQ.out
     case measure => simp [intOf]; omega
    ·have HX := LH g2; clear g2
     go_wp2_with fail
     refine (wild_any c _).mono ?_
     rintro e w2 ⟨rfl, rfl⟩
     go_wp2_with (at_builtin; refine OwnB.appendAt HBA.out _ _ rfl _ _ rfl rfl rfl ?_ ?_ ?_ hbA.size ?_ ?_)
     all_goals first | omega | exact (World.size_alloc ..).symm | skip
     intro v' w' h2 h3 h3k
     have H2 := LH h2; clear h2
     have hbB := hbA.trans h3
     have HW2 := LH (HWA.out.keptB HBA.out (by decide) h3k)
     have hcc : w'.cell? ⟨wr.heap.size, 0, none⟩ = some (.int .u8 (c.toNat : Int)) := by
      rw [h3k.cell (by simp) (HB.out.ne_new (Nat.le_refl _))]
      exact World.cell?_alloc_new wr _ _ 0
     clear h3k
     go_wp2_with (at_builtin; refine OwnB.appendAt H2.out _ _ rfl _ _ rfl rfl rfl ?_ ?_ ?_ hbB.size ?_ ?_)
     all_goals first | omega | exact (World.size_alloc ..).symm | (rw [List.length_append, List.length_singleton]; omega) | skip
     intro v2 w2 h4 h5 h5k
     have H4 := LH h4
     have HW4 := LH (HW2.out.keptB H2.out (by decide) h5k)
     clear h4 h5k
     go_wp2
     go_roundw
     case rel =>
      refine ⟨k + 1, by omega, by go_num, ?_, ?_, hbB.trans h5, HW4.out⟩
      ·rw [HT.out, canOf_snoc, HX.out]
       simpa [ofNat_byte] using H4.out
      ·rw [HT.out, List.any_append, HNB.out]; simpa using HQ.out
     case measure => simp [intOf]; omega
    ·have HX := LH g2; clear g2
     go_wp2_with fail
     refine (wild_any c _).mono ?_
     rintro e w2 ⟨rfl, rfl⟩
     go_wp2_with (at_builtin; refine OwnB.appendAt HBA.out _ _ rfl _ _ rfl rfl rfl ?_ ?_ ?_ hbA.size ?_ ?_)
     all_goals first | omega | exact (World.size_alloc ..).symm | skip
     intro v' w' h2 h3 h3k
     have H2 := LH h2
     have HW2 := LH (HWA.out.keptB HBA.out (by decide) h3k)
     clear h2 h3k
     go_wp2
     go_roundw
     case rel =>
      refine ⟨k + 1, by omega, by go_num, ?_, ?_, hbA.trans h3, HW2.out⟩
      ·rw [HT.out, canOf_snoc, HX.out]
       simpa [ofNat_byte] using H2.out
      ·rw [HT.out, List.any_append, HNB.out]; simpa using HQ.out
     case measure => simp [intOf]; omega
  ·have e : l.take k = l := List.take_of_length_le (by omega)
   rw [e] at HNB HB
   have HC := LH HB.out.conv
   have HP := LH (show CanRet l w (.returned (.tuple #[.string (str (canOf l)), .bool true])) wr from ⟨by rw [if_neg (by rw [HNB.out]; simp)], hb⟩)
   clear e
   go_wp2_with fail
   simp only [HC.out, Result.andThen]
   go_wp2
   go_ret2
   exact HP.out
end Go.Proofs.YthcldpminmhgkaaDoor
end
