/- Merged for a claim by shake.py: Bk Zt Lpr Lw Lpp -/
import Derived.Test.YthcldpminmhgkaaDoorKxA
import Derived.Test.YthcldpminmhgkaaDoorKx1
import Derived.Test.YthcldpminmhgkaaDoorKx3
import Derived.Test.YthcldpminmhgkaaDoorKx5
set_option maxRecDepth 100000
set_option maxHeartbeats 4000000
set_option linter.unusedVariables false
set_option linter.unusedSimpArgs false
section
namespace Go.Proofs.YthcldpminmhgkaaDoor
inductive At where
 | pl (c : UInt8)
 | es (c : UInt8)
 | wi (c : UInt8)
def At.b : At → List UInt8
 | .pl c => [c]
 | .es c => [92, c]
 | .wi c => [c]
def At.ok : At → Prop
 | .pl c => cls c = 0
 | .es _ => True
 | .wi c => cls c = 3
def At.rn : At → Rn
 | .pl c => ⟨[c], [c], 0, 1⟩
 | .es c => ⟨[c], pe c, 0, 2⟩
 | .wi c => ⟨[], [c], 1, 1⟩
def At.isWi : At → Bool
 | .wi _ => true
 | _ => false
def atB (l : List At) : List UInt8 := l.flatMap At.b
def atRn (l : List At) : Rn := l.foldr (fun a r => Rn.add a.rn r) ⟨[], [], 0, 0⟩
theorem atB_cons (a : At) (l : List At) : atB (a :: l) = a.b ++ atB l := rfl
theorem atRn_cons (a : At) (l : List At) : atRn (a :: l) = Rn.add a.rn (atRn l) := rfl
theorem atB_append (a b : List At) : atB (a ++ b) = atB a ++ atB b := by simp [atB]
theorem cls92 : cls 92 = 4 := by decide
theorem runL_at_pl (c : UInt8) (t : List UInt8) (h : cls c = 0) : runL (c :: t) = (runL t).map (Rn.add ⟨[c], [c], 0, 1⟩) := by
 cases t <;> simp [runL, h, Rn.add]
theorem runL_at_wi (c : UInt8) (t : List UInt8) (h : cls c = 3) : runL (c :: t) = (runL t).map (Rn.add ⟨[], [c], 1, 1⟩) := by
 cases t <;> simp [runL, h, Rn.add]
theorem runL_at_es (c : UInt8) (t : List UInt8) : runL (92 :: c :: t) = (runL t).map (Rn.add ⟨[c], pe c, 0, 2⟩) := by
 simp [runL, cls92]
theorem runL_at : ∀ (l : List At), (∀ a ∈ l, a.ok) → runL (atB l) = some (atRn l)
 | [], _ => rfl
 | a :: l, h => by
  have ih := runL_at l (fun x hx => h x (List.mem_cons_of_mem _ hx))
  have ha := h a List.mem_cons_self
  rw [atB_cons, atRn_cons]
  cases a with
  | pl c => rw [show At.b (.pl c) ++ atB l = c :: atB l from rfl, runL_at_pl c _ ha, ih]; rfl
  | es c => rw [show At.b (.es c) ++ atB l = 92 :: c :: atB l from rfl, runL_at_es, ih]; rfl
  | wi c => rw [show At.b (.wi c) ++ atB l = c :: atB l from rfl, runL_at_wi c _ ha, ih]; rfl
theorem atRn_len (l : List At) : (atRn l).len = (atB l).length := by
 induction l with
 | nil => rfl
 | cons a l ih =>
  rw [atB_cons, atRn_cons, List.length_append, ← ih]
  cases a <;> rfl
def At.run1 : At → Prop
 | .pl c => c ≠ 43 ∧ c ≠ 45
 | _ => True
theorem pl_run {c : UInt8} (h : cls c = 0) (h1 : c ≠ 43) (h2 : c ≠ 45) : singleK c = 0 ∧ c ≠ 34 ∧ c ≠ 94 ∧ c ≠ 126 ∧ c ≠ 64 := by
 have := all_bytes' (p := fun c => decide (cls c = 0 → c ≠ 43 → c ≠ 45 → singleK c = 0 ∧ c ≠ 34 ∧ c ≠ 94 ∧ c ≠ 126 ∧ c ≠ 64)) (by decide +kernel) c
 exact of_decide_eq_true this h h1 h2
theorem wi_run {c : UInt8} (h : cls c = 3) : singleK c = 0 ∧ c ≠ 34 ∧ c ≠ 94 ∧ c ≠ 126 ∧ c ≠ 64 := by
 have := all_bytes' (p := fun c => decide (cls c = 3 → singleK c = 0 ∧ c ≠ 34 ∧ c ≠ 94 ∧ c ≠ 126 ∧ c ≠ 64)) (by decide +kernel) c
 exact of_decide_eq_true this h
theorem tokOf_run {c : UInt8} (t : List UInt8) (h : singleK c = 0) (h1 : c ≠ 34) (h2 : c ≠ 94) (h3 : c ≠ 126) (h4 : c ≠ 64) : tokOf (c :: t) = runTk (c :: t) := by
 rw [tokOf, if_neg (fun h' => h' h), if_neg h1, if_neg h2, if_neg h3, if_neg h4]
theorem tokOf_at {l : List At} (h : ∀ a ∈ l, a.ok) (h0 : l ≠ []) (h1 : ∀ a, l.head? = some a → a.run1) : tokOf (atB l) = runTk (atB l) := by
 cases l with
 | nil => exact absurd rfl h0
 | cons a l =>
  have ha := h a List.mem_cons_self
  have hr := h1 a rfl
  cases a with
  | pl c =>
   obtain ⟨a1, a2, a3, a4, a5⟩ := pl_run ha hr.1 hr.2
   exact tokOf_run _ a1 a2 a3 a4 a5
  | es c => exact tokOf_run _ (by decide) (by decide) (by decide) (by decide) (by decide)
  | wi c =>
   obtain ⟨a1, a2, a3, a4, a5⟩ := wi_run ha
   exact tokOf_run _ a1 a2 a3 a4 a5
theorem head_at {l : List At} (h : ∀ a ∈ l, a.ok) {c : UInt8} {t : List UInt8} (he : atB l = c :: t) : cls c ≠ 1 := by
 cases l with
 | nil => cases he
 | cons a l =>
  have ha := h a List.mem_cons_self
  rw [atB_cons] at he
  cases a with
  | pl d => cases he; rw [show cls c = 0 from ha]; decide
  | es d => cases he; decide
  | wi d => cases he; rw [show cls c = 3 from ha]; decide
theorem scan_one {l : List UInt8} {k : Tk} (h : tokOf l = some k) (hl : k.len = l.length) (hc : ∀ c t, l = c :: t → cls c ≠ 1) : scanL l = ([⟨k.kind, k.text, k.n, 0, l.length⟩, ⟨0, [], 0, l.length, l.length⟩], none) := by
 cases l with
 | nil => cases h
 | cons c t =>
  unfold scanL
  rw [scanF, if_neg (hc c t rfl), h]
  simp only []
  rw [hl, List.drop_length, List.length_cons, scanF]
  simp [ahead, Tk.lx, hl]
theorem atRn_wilds (l : List At) : (atRn l).wilds = (l.filter At.isWi).length := by
 induction l with
 | nil => rfl
 | cons a l ih =>
  rw [atRn_cons, List.filter_cons]
  cases a <;> simp [Rn.add, At.rn, At.isWi, ih]; omega
theorem scan_pat {l : List At} (h : ∀ a ∈ l, a.ok) (h1 : ∀ a, l.head? = some a → a.run1) (hw : l.any At.isWi = true) :
  scanL (atB l) = ([⟨2, (atRn l).pat, 0, 0, (atB l).length⟩, ⟨0, [], 0, (atB l).length, (atB l).length⟩], none) := by
 have h0 : l ≠ [] := by intro e; subst e; simp at hw
 have hwp : 0 < (atRn l).wilds := by
  rw [atRn_wilds]
  obtain ⟨a, ha, hb⟩ := List.any_eq_true.1 hw
  exact List.length_pos_of_mem (List.mem_filter.2 ⟨ha, hb⟩)
 have ht : tokOf (atB l) = some ⟨2, (atRn l).pat, 0, (atRn l).len⟩ := by
  rw [tokOf_at h h0 h1]
  unfold runTk
  rw [runL_at l h, Option.map_some, if_pos hwp]
 exact scan_one ht (atRn_len l) (fun c t he => head_at h he)
theorem scan_word {l : List At} (h : ∀ a ∈ l, a.ok) (h0 : l ≠ []) (h1 : ∀ a, l.head? = some a → a.run1) (hw : l.any At.isWi = false) (hk : kwd (atB l) = 1) :
  scanL (atB l) = ([⟨1, (atRn l).text, 0, 0, (atB l).length⟩, ⟨0, [], 0, (atB l).length, (atB l).length⟩], none) := by
 have hwp : ¬ 0 < (atRn l).wilds := by
  rw [atRn_wilds]
  rw [List.any_eq_false] at hw
  have : l.filter At.isWi = [] := List.filter_eq_nil_iff.2 hw
  rw [this]; simp
 have ht : tokOf (atB l) = some ⟨1, (atRn l).text, 0, (atRn l).len⟩ := by
  rw [tokOf_at h h0 h1]
  unfold runTk
  rw [runL_at l h, Option.map_some, if_neg hwp, atRn_len, List.take_length, hk, if_pos rfl]
 exact scan_one ht (atRn_len l) (fun c t he => head_at h he)
def eAt (first : Bool) (c : UInt8) : At := if cls c ≠ 0 ∨ (first = true ∧ (c = 43 ∨ c = 45)) then .es c else .pl c
theorem eAt_b (f : Bool) (c : UInt8) : (eAt f c).b = esc f c := by unfold eAt esc; split <;> rfl
theorem eAt_ok (f : Bool) (c : UInt8) : (eAt f c).ok := by
 unfold eAt
 split
 ·trivial
 ·rename_i h
  show cls c = 0
  exact Classical.byContradiction fun h' => h (.inl h')
theorem eAt_run1 (c : UInt8) : (eAt true c).run1 := by
 unfold eAt
 split
 ·trivial
 ·rename_i h
  exact ⟨fun e => h (.inr ⟨rfl, .inl e⟩), fun e => h (.inr ⟨rfl, .inr e⟩)⟩
theorem eAt_isWi (f : Bool) (c : UInt8) : (eAt f c).isWi = false := by unfold eAt; split <;> rfl
theorem eAt_text (f : Bool) (c : UInt8) : (eAt f c).rn.text = [c] := by unfold eAt; split <;> rfl
def lAt (first : Bool) : List UInt8 → List At
 | [] => []
 | c :: t => eAt first c :: t.map (eAt false)
theorem lettersTo_cons (f : Bool) (c : UInt8) (t : List UInt8) (k : Nat) (hk : k ≤ t.length) : lettersTo f (c :: t) (k + 1) = esc f c ++ (t.take k).flatMap (esc false) := by
 induction k with
 | zero => simp [lettersTo]
 | succ k ih =>
  rw [lettersTo, ih (by omega), List.append_assoc]
  congr 1
  have e : (f && (k + 1 == 0)) = false := by simp
  have hk' : k < t.length := by omega
  rw [e, List.take_succ_eq_append_getElem hk', List.flatMap_append]
  simp [hk']
theorem lettersL_at (f : Bool) (l : List UInt8) : lettersL f l = atB (lAt f l) := by
 unfold lettersL
 cases l with
 | nil => rfl
 | cons c t =>
  rw [List.length_cons, lettersTo_cons f c t t.length (Nat.le_refl _), List.take_length]
  unfold lAt
  rw [atB_cons, eAt_b]
  congr 1
  unfold atB
  rw [List.flatMap_map]
  congr 1
  funext x
  exact (eAt_b false x).symm
theorem lAt_ok (f : Bool) (l : List UInt8) : ∀ a ∈ lAt f l, a.ok := by
 cases l with
 | nil => intro a h; cases h
 | cons c t =>
  intro a h
  unfold lAt at h
  rcases List.mem_cons.1 h with rfl | h
  ·exact eAt_ok f c
  ·obtain ⟨x, _, rfl⟩ := List.mem_map.1 h
   exact eAt_ok false x
theorem lAt_wi (f : Bool) (l : List UInt8) : (lAt f l).any At.isWi = false := by
 rw [List.any_eq_false]
 cases l with
 | nil => intro a h; cases h
 | cons c t =>
  intro a h
  unfold lAt at h
  rcases List.mem_cons.1 h with rfl | h
  ·rw [eAt_isWi]; decide
  ·obtain ⟨x, _, rfl⟩ := List.mem_map.1 h
   rw [eAt_isWi]; decide
theorem atRn_map_text (t : List UInt8) : (atRn (t.map (eAt false))).text = t := by
 induction t with
 | nil => rfl
 | cons c t ih =>
  rw [List.map_cons, atRn_cons]
  show (eAt false c).rn.text ++ (atRn (t.map (eAt false))).text = c :: t
  rw [ih, eAt_text]; rfl
theorem lAt_text (f : Bool) (l : List UInt8) : (atRn (lAt f l)).text = l := by
 cases l with
 | nil => rfl
 | cons c t =>
  unfold lAt
  rw [atRn_cons]
  show (eAt f c).rn.text ++ (atRn (t.map (eAt false))).text = c :: t
  rw [atRn_map_text, eAt_text]; rfl
theorem at_plain : ∀ (l : List At), (∀ a ∈ l, a.ok) → l.any At.isWi = false → (92 : UInt8) ∉ atB l → (atRn l).text = atB l
 | [], _, _, _ => rfl
 | a :: l, h, hw, hn => by
  rw [List.any_cons, Bool.or_eq_false_iff] at hw
  rw [atB_cons] at hn
  have ih := at_plain l (fun x hx => h x (List.mem_cons_of_mem _ hx)) hw.2 (fun hm => hn (List.mem_append.2 (.inr hm)))
  rw [atRn_cons, atB_cons]
  show a.rn.text ++ (atRn l).text = _
  rw [ih]
  congr 1
  cases a with
  | pl c => rfl
  | es c => exact absurd (List.mem_append.2 (.inl List.mem_cons_self)) hn
  | wi c => cases hw.1
theorem kwd_1or (l : List UInt8) : kwd l = 1 ∨ l = [65, 78, 68] ∨ l = [79, 82] ∨ l = [78, 79, 84] ∨ l = [84, 79] := by
 unfold kwd
 split
 ·exact .inr (.inl ‹_›)
 ·split
  ·exact .inr (.inr (.inl ‹_›))
  ·split
   ·exact .inr (.inr (.inr (.inl ‹_›)))
   ·split
    ·exact .inr (.inr (.inr (.inr ‹_›)))
    ·exact .inl rfl
theorem word_back {s : List UInt8} (h : s ≠ []) : scanL (wordL s) = ([⟨1, s, 0, 0, (wordL s).length⟩, ⟨0, [], 0, (wordL s).length, (wordL s).length⟩], none) := by
 unfold wordL
 by_cases hk : kwd s ≠ 1
 ·rw [if_pos hk]
  have hs : s = [65, 78, 68] ∨ s = [79, 82] ∨ s = [78, 79, 84] ∨ s = [84, 79] := by
   rcases kwd_1or s with h | h
   ·exact absurd h hk
   ·exact h
  rcases hs with rfl | rfl | rfl | rfl <;> rfl
 ·rw [if_neg hk]
  have hk1 : kwd s = 1 := Classical.byContradiction fun h => hk h
  rw [lettersL_at]
  have h0 : lAt true s ≠ [] := by cases s with | nil => exact absurd rfl h | cons c t => simp [lAt]
  have h1 : ∀ a, (lAt true s).head? = some a → a.run1 := by
   cases s with
   | nil => exact absurd rfl h
   | cons c t => intro a ha; cases ha; exact eAt_run1 c
  have hkw : kwd (atB (lAt true s)) = 1 := by
   rcases kwd_1or (atB (lAt true s)) with h | h
   ·exact h
   ·have hn : (92 : UInt8) ∉ atB (lAt true s) := by rcases h with h | h | h | h <;> (rw [h]; decide)
    have := at_plain _ (lAt_ok true s) (lAt_wi true s) hn
    rw [lAt_text] at this
    rw [← this]; exact hk1
  have := scan_word (lAt_ok true s) h0 h1 (lAt_wi true s) hkw
  rw [lAt_text] at this
  exact this
theorem quoteTo_eq (l : List UInt8) (k : Nat) (hk : k ≤ l.length) : quoteTo l k = 34 :: (l.take k).flatMap qesc := by
 induction k with
 | zero => simp [quoteTo]
 | succ k ih =>
  have hk' : k < l.length := by omega
  rw [quoteTo, ih (by omega), List.take_succ_eq_append_getElem hk', List.flatMap_append]
  simp [hk']
theorem quotedL_other' {c : UInt8} (t : List UInt8) (h1 : c ≠ 34) (h2 : c ≠ 92) : quotedL (c :: t) = (quotedL t).map (fun x => (c :: x.1, x.2 + 1)) := by
 cases t with
 | nil => simp [quotedL, h1]
 | cons d t => rw [quotedL, if_neg h1, if_neg h2]
theorem quotedL_back (l : List UInt8) : quotedL (l.flatMap qesc ++ [34]) = some (l, (l.flatMap qesc).length + 1) := by
 induction l with
 | nil => rfl
 | cons c l ih =>
  rw [List.flatMap_cons, List.append_assoc]
  by_cases h : c = 34 ∨ c = 92
  ·have e : qesc c = [92, c] := by unfold qesc; rw [if_pos h]
   rw [e]
   show quotedL (92 :: c :: (l.flatMap qesc ++ [34])) = _
   rw [quotedL, if_neg (by decide), if_pos rfl, ih, Option.map_some, List.length_append, List.length_cons, List.length_cons, List.length_nil]
   congr 2; omega
  ·have e : qesc c = [c] := by unfold qesc; rw [if_neg h]
   rw [e]
   show quotedL (c :: (l.flatMap qesc ++ [34])) = _
   rw [quotedL_other' _ (fun e => h (.inl e)) (fun e => h (.inr e)), ih, Option.map_some, List.length_append, List.length_cons, List.length_nil]
   congr 2; omega
theorem quote_back (s : List UInt8) : scanL (quoteL s) = ([⟨3, s, 0, 0, (quoteL s).length⟩, ⟨0, [], 0, (quoteL s).length, (quoteL s).length⟩], none) := by
 have e : quoteL s = 34 :: (s.flatMap qesc ++ [34]) := by
  unfold quoteL
  rw [quoteTo_eq s s.length (Nat.le_refl _), List.take_length]; rfl
 rw [e]
 have ht : tokOf (34 :: (s.flatMap qesc ++ [34])) = some ⟨3, s, 0, (s.flatMap qesc).length + 1 + 1⟩ := by
  rw [tokOf, if_neg (by decide), if_pos rfl, quotedL_back]; rfl
 exact scan_one ht (by simp) (fun c t h => by cases h; decide)
def At.sg (a : At) (i : Nat) : Sg := match a with
 | .pl c => ⟨c, false, i, 1⟩
 | .es c => ⟨c, true, i, 2⟩
 | .wi c => ⟨c, false, i, 1⟩
def At.nb : At → Prop
 | .pl c => c ≠ 92
 | .es _ => True
 | .wi c => cls c = 3
def sgsFrom : List At → Nat → List Sg
 | [], _ => []
 | a :: l, i => a.sg i :: sgsFrom l (i + a.b.length)
theorem signsFrom_ne {c : UInt8} (t : List UInt8) (i : Nat) (h : c ≠ 92) : signsFrom (c :: t) i = ⟨c, false, i, 1⟩ :: signsFrom t (i + 1) := by
 cases t with
 | nil => rfl
 | cons d t => rw [signsFrom, if_neg h]
theorem wi_ne {c : UInt8} (h : cls c = 3) : c ≠ 92 := by intro e; subst e; exact absurd h (by decide)
theorem signs_at (z : List UInt8) : ∀ (l : List At) (i : Nat), (∀ a ∈ l, a.nb) → signsFrom (atB l ++ z) i = sgsFrom l i ++ signsFrom z (i + (atB l).length)
 | [], i, _ => by simp [atB, sgsFrom]
 | a :: l, i, h => by
  have ih := signs_at z l (i + a.b.length) (fun x hx => h x (List.mem_cons_of_mem _ hx))
  have ha := h a List.mem_cons_self
  rw [atB_cons, List.append_assoc, sgsFrom, List.cons_append]
  cases a with
  | pl c =>
   rw [show At.b (.pl c) ++ (atB l ++ z) = c :: (atB l ++ z) from rfl, signsFrom_ne _ _ ha]
   rw [show At.b (.pl c) = [c] from rfl] at ih ⊢
   simp only [List.length_cons, List.length_nil, Nat.zero_add] at ih
   have e2 : i + 1 + (atB l).length = i + ([c] ++ atB l).length := by simp; omega
   rw [← e2, ih]; rfl
  | es c =>
   rw [show At.b (.es c) ++ (atB l ++ z) = 92 :: c :: (atB l ++ z) from rfl, signsFrom, if_pos rfl]
   rw [show At.b (.es c) = [92, c] from rfl] at ih ⊢
   simp only [List.length_cons, List.length_nil, Nat.zero_add] at ih
   have e2 : i + 2 + (atB l).length = i + ([92, c] ++ atB l).length := by simp; omega
   rw [← e2, ih]; rfl
  | wi c =>
   rw [show At.b (.wi c) ++ (atB l ++ z) = c :: (atB l ++ z) from rfl, signsFrom_ne _ _ (wi_ne ha)]
   rw [show At.b (.wi c) = [c] from rfl] at ih ⊢
   simp only [List.length_cons, List.length_nil, Nat.zero_add] at ih
   have e2 : i + 1 + (atB l).length = i + ([c] ++ atB l).length := by simp; omega
   rw [← e2, ih]; rfl
theorem signs_atB (l : List At) (h : ∀ a ∈ l, a.nb) : signs (atB l) = sgsFrom l 0 := by
 have := signs_at [] l 0 h
 rw [List.append_nil] at this
 unfold signs
 rw [this]; simp [signsFrom]
inductive Bpt where
 | le (c : UInt8)
 | wi (c : UInt8)
def Bpt.p : Bpt → At
 | .le c => .es c
 | .wi c => .wi c
def Bpt.c : Bpt → At
 | .le c => if c = 42 ∨ c = 63 ∨ c = 92 then .es c else .pl c
 | .wi c => .wi c
def Bpt.ok : Bpt → Prop
 | .le _ => True
 | .wi c => cls c = 3
def Bpt.w (first : Bool) : Bpt → At
 | .le c => eAt first c
 | .wi c => .wi c
def Bpt.isWi : Bpt → Bool
 | .wi _ => true
 | _ => false
theorem cls34 (c : UInt8) : (cls c = 3 ∨ cls c = 4) ↔ (c = 42 ∨ c = 63 ∨ c = 92) := by
 have := all_bytes' (p := fun c => decide ((cls c = 3 ∨ cls c = 4) ↔ (c = 42 ∨ c = 63 ∨ c = 92))) (by decide +kernel) c
 exact of_decide_eq_true this
theorem Bpt.p_nb {x : Bpt} (h : x.ok) : x.p.nb := by cases x with | le c => trivial | wi c => exact h
theorem Bpt.c_nb {x : Bpt} (h : x.ok) : x.c.nb := by
 cases x with
 | le c =>
  show (if c = 42 ∨ c = 63 ∨ c = 92 then At.es c else At.pl c).nb
  split
  ·trivial
  ·rename_i h; exact fun e => h (.inr (.inr e))
 | wi c => exact h
def ptP (l : List Bpt) : List UInt8 := atB (l.map Bpt.p)
def ptC (l : List Bpt) : List UInt8 := atB (l.map Bpt.c)
def ptW : List Bpt → List At
 | [] => []
 | x :: t => x.w true :: t.map (Bpt.w false)
theorem patSg_at (f : Bool) (i : Nat) (x : Bpt) (h : x.ok) : patSg f (x.p.sg i) = (x.w f).b ∧ patSg f (x.c.sg i) = (x.w f).b ∧ badSg (x.p.sg i) = false ∧ badSg (x.c.sg i) = false ∧ wildSg (x.p.sg i) = x.isWi ∧ wildSg (x.c.sg i) = x.isWi := by
 cases x with
 | wi c =>
  have h3 : cls c = 3 := h
  have h92 : (c == 92) = false := beq_eq_false_iff_ne.2 (wi_ne h3)
  have hw : wildSg ⟨c, false, i, 1⟩ = true := by unfold wildSg; simp [h3]
  have hb : badSg ⟨c, false, i, 1⟩ = false := by unfold badSg; simp [wi_ne h3]
  refine ⟨?_, ?_, hb, hb, hw, hw⟩ <;> (show patSg f ⟨c, false, i, 1⟩ = [c]; unfold patSg; rw [if_pos hw])
 | le c =>
  have hw1 : ∀ i k, wildSg ⟨c, true, i, k⟩ = false := fun i k => by unfold wildSg; simp
  have hb1 : ∀ i k, badSg ⟨c, true, i, k⟩ = false := fun i k => by unfold badSg; simp
  have hp1 : ∀ i k, patSg f ⟨c, true, i, k⟩ = (eAt f c).b := fun i k => by unfold patSg; rw [hw1, eAt_b]; simp
  by_cases hc : c = 42 ∨ c = 63 ∨ c = 92
  ·have e : Bpt.c (.le c) = .es c := if_pos hc
   rw [e]
   exact ⟨hp1 _ _, hp1 _ _, hb1 _ _, hb1 _ _, hw1 _ _, hw1 _ _⟩
  ·have e : Bpt.c (.le c) = .pl c := if_neg hc
   have h34 : ¬ (cls c = 3 ∨ cls c = 4) := fun h => hc ((cls34 c).1 h)
   have hw2 : wildSg ⟨c, false, i, 1⟩ = false := by unfold wildSg; simp; exact fun h => h34 (.inl h)
   have hb2 : badSg ⟨c, false, i, 1⟩ = false := by unfold badSg; simp; exact fun h => hc (.inr (.inr h))
   rw [e]
   refine ⟨hp1 _ _, ?_, hb1 _ _, hb2, hw1 _ _, hw2⟩
   show patSg f ⟨c, false, i, 1⟩ = (eAt f c).b
   unfold patSg; rw [hw2, eAt_b]; simp
theorem patTo_cons (x : Sg) (t : List Sg) (k : Nat) (hk : k ≤ t.length) : patTo (x :: t) (k + 1) = patSg true x ++ (t.take k).flatMap (patSg false) := by
 induction k with
 | zero => simp [patTo]
 | succ k ih =>
  have hk' : k < t.length := by omega
  rw [patTo_succ _ _ (by simpa using hk'), ih (by omega), List.append_assoc, List.take_succ_eq_append_getElem hk', List.flatMap_append]
  congr 1
  have e : (k + 1 == 0) = false := by simp
  rw [e]
  simp
theorem flat_at (g : Bpt → At) (f : Bool) (hg : ∀ (i : Nat) (x : Bpt), x.ok → patSg f ((g x).sg i) = (x.w f).b) : ∀ (t : List Bpt) (i : Nat), (∀ x ∈ t, x.ok) → (sgsFrom (t.map g) i).flatMap (patSg f) = atB (t.map (Bpt.w f))
 | [], _, _ => rfl
 | x :: t, i, h => by
  rw [List.map_cons, List.map_cons, sgsFrom, List.flatMap_cons, hg i x (h x List.mem_cons_self), flat_at g f hg t _ (fun y hy => h y (List.mem_cons_of_mem _ hy)), atB_cons]
theorem any_at (g : Bpt → At) (p : Sg → Bool) (q : Bpt → Bool) (hg : ∀ (i : Nat) (x : Bpt), x.ok → p ((g x).sg i) = q x) : ∀ (t : List Bpt) (i : Nat), (∀ x ∈ t, x.ok) → (sgsFrom (t.map g) i).any p = t.any q
 | [], _, _ => rfl
 | x :: t, i, h => by
  rw [List.map_cons, sgsFrom, List.any_cons, List.any_cons, hg i x (h x List.mem_cons_self), any_at g p q hg t _ (fun y hy => h y (List.mem_cons_of_mem _ hy))]
theorem sgs_length (l : List At) (i : Nat) : (sgsFrom l i).length = l.length := by
 induction l generalizing i with
 | nil => rfl
 | cons a l ih => rw [sgsFrom, List.length_cons, ih, List.length_cons]
theorem pattern_at (g : Bpt → At) (hg : ∀ (f : Bool) (i : Nat) (x : Bpt), x.ok → patSg f ((g x).sg i) = (x.w f).b) (hb : ∀ (i : Nat) (x : Bpt), x.ok → badSg ((g x).sg i) = false)
  (hw : ∀ (i : Nat) (x : Bpt), x.ok → wildSg ((g x).sg i) = x.isWi) (hn : ∀ x : Bpt, x.ok → (g x).nb) (l : List Bpt) (h : ∀ x ∈ l, x.ok) :
  patternL (atB (l.map g)) = if l.any Bpt.isWi then atB (ptW l) else [] := by
 have hs : signs (atB (l.map g)) = sgsFrom (l.map g) 0 := signs_atB _ (fun a ha => by obtain ⟨x, hx, rfl⟩ := List.mem_map.1 ha; exact hn x (h x hx))
 unfold patternL
 rw [hs, any_at g badSg (fun _ => false) hb l 0 h, any_at g wildSg Bpt.isWi hw l 0 h, if_neg (by simp)]
 congr 1
 cases l with
 | nil => rfl
 | cons x t =>
  rw [sgs_length, List.length_map, List.length_cons, List.map_cons, sgsFrom, patTo_cons _ _ _ (by rw [sgs_length, List.length_map]; exact Nat.le_refl _),
   List.take_of_length_le (by rw [sgs_length, List.length_map]; exact Nat.le_refl _), hg true 0 x (h x List.mem_cons_self), flat_at g false (hg false) t _ (fun y hy => h y (List.mem_cons_of_mem _ hy))]
  rfl
theorem pattern_p (l : List Bpt) (h : ∀ x ∈ l, x.ok) : patternL (ptP l) = if l.any Bpt.isWi then atB (ptW l) else [] :=
 pattern_at Bpt.p (fun f i x hx => (patSg_at f i x hx).1) (fun i x hx => (patSg_at true i x hx).2.2.1) (fun i x hx => (patSg_at true i x hx).2.2.2.2.1) (fun x hx => Bpt.p_nb hx) l h
theorem pattern_c (l : List Bpt) (h : ∀ x ∈ l, x.ok) : patternL (ptC l) = if l.any Bpt.isWi then atB (ptW l) else [] :=
 pattern_at Bpt.c (fun f i x hx => (patSg_at f i x hx).2.1) (fun i x hx => (patSg_at true i x hx).2.2.2.1) (fun i x hx => (patSg_at true i x hx).2.2.2.2.2) (fun x hx => Bpt.c_nb hx) l h
theorem ptW_ok (l : List Bpt) (h : ∀ x ∈ l, x.ok) : ∀ a ∈ ptW l, a.ok := by
 have hx1 : ∀ (f : Bool) (x : Bpt), x.ok → (x.w f).ok := fun f x hx => by
  cases x with
  | le c => exact eAt_ok f c
  | wi c => exact hx
 cases l with
 | nil => intro a ha; cases ha
 | cons x t =>
  intro a ha
  rcases List.mem_cons.1 ha with rfl | ha
  ·exact hx1 true x (h x List.mem_cons_self)
  ·obtain ⟨y, hy, rfl⟩ := List.mem_map.1 ha
   exact hx1 false y (h y (List.mem_cons_of_mem _ hy))
theorem w_isWi (f : Bool) (x : Bpt) : (x.w f).isWi = x.isWi := by
 cases x with
 | le c => exact eAt_isWi f c
 | wi c => rfl
theorem ptW_wi (l : List Bpt) : (ptW l).any At.isWi = l.any Bpt.isWi := by
 cases l with
 | nil => rfl
 | cons x t =>
  show ((x.w true).isWi || (t.map (Bpt.w false)).any At.isWi) = _
  rw [w_isWi, List.any_map, List.any_cons]
  congr 1
  congr 1
  funext y
  exact w_isWi false y
theorem w_pat (f : Bool) (x : Bpt) : (x.w f).rn.pat = x.c.b := by
 cases x with
 | wi c => rfl
 | le c =>
  show (eAt f c).rn.pat = (if c = 42 ∨ c = 63 ∨ c = 92 then At.es c else At.pl c).b
  unfold eAt
  by_cases hc : c = 42 ∨ c = 63 ∨ c = 92
  ·have h34 := (cls34 c).2 hc
   have h0 : cls c ≠ 0 := by rcases h34 with h | h <;> (rw [h]; decide)
   rw [if_pos (.inl h0), if_pos hc]
   show pe c = [92, c]
   unfold pe; rw [if_pos h34]
  ·have h34 : ¬ (cls c = 3 ∨ cls c = 4) := fun h => hc ((cls34 c).1 h)
   rw [if_neg hc]
   split
   ·show pe c = [c]
    unfold pe; rw [if_neg h34]
   ·rfl
theorem ptW_pat (l : List Bpt) : (atRn (ptW l)).pat = ptC l := by
 have h : ∀ t : List Bpt, (atRn (t.map (Bpt.w false))).pat = ptC t := by
  intro t
  induction t with
  | nil => rfl
  | cons y t ih =>
   show (y.w false).rn.pat ++ (atRn (t.map (Bpt.w false))).pat = y.c.b ++ ptC t
   rw [ih, w_pat]
 cases l with
 | nil => rfl
 | cons x t =>
  show (x.w true).rn.pat ++ (atRn (t.map (Bpt.w false))).pat = x.c.b ++ ptC t
  rw [h, w_pat]
theorem pattern_back (l : List Bpt) (h : ∀ x ∈ l, x.ok) (hw : l.any Bpt.isWi = true) :
  scanL (patternL (ptP l)) = ([⟨2, ptC l, 0, 0, (patternL (ptP l)).length⟩, ⟨0, [], 0, (patternL (ptP l)).length, (patternL (ptP l)).length⟩], none) := by
 rw [pattern_p l h, if_pos hw]
 have := scan_pat (ptW_ok l h) (fun a ha => by
  cases l with
  | nil => cases ha
  | cons x t =>
   cases ha
   cases x with
   | le c => exact eAt_run1 c
   | wi c => trivial) ((ptW_wi l).trans hw)
 rw [ptW_pat] at this
 exact this
end Go.Proofs.YthcldpminmhgkaaDoor
end
section
namespace Go.Proofs.YthcldpminmhgkaaDoor
open Go.RowKit
section
variable {s : ByteArray} {i p : Nat} {x : Sg}
end
theorem patSg_length (f : Bool) (x : Sg) : (patSg f x).length ≤ 2 := by unfold patSg; split; simp; exact esc_length f x.c
theorem patTo_length (l : List Sg) (k : Nat) : (patTo l k).length ≤ 2 * k := by
 induction k with
 | zero => simp [patTo]
 | succ k ih =>
  rw [patTo, List.length_append]
  split
  ·have := patSg_length (k == 0) ‹Sg›; omega
  ·simp; omega
theorem any_take_snoc (p : Sg → Bool) (l : List Sg) (k : Nat) (h : k < l.length) : (l.take (k + 1)).any p = ((l.take k).any p || p l[k]) := by
 rw [take_snoc' l k h, List.any_append]; simp
def StrRet (s : ByteArray) (w : World) (e : Ending) (w' : World) : Prop := e = .returned (.string s) ∧ Below w.heap.size w w'
theorem letters_any (s : ByteArray) (first : Bool) (v0 : Value) (B : Nat) (l0 : List UInt8) (w : World) (hE : ClsEnv w) (hown : OwnB w B v0 l0) (hB : B ≤ w.heap.size) (hEB : 25 < B) (hs : s.size + l0.length ≤ 20000000000000) :
  Calls Tryd.prog 77 #[v0, .string s, .bool first] w (RetB w B (l0 ++ lettersL first s.data.toList)) := by
 have HS := LH hs
 have hs1 : s.size ≤ 20000000000000 := by omega
 clear hs
 go_enter Tryd.func77, Tryd.ntmps77
 go_wp2
 go_loopw [0, 7] (fun v i wr => LRel s first w B l0 v i wr) (fun _ i _ => s.size - (intOf i).toNat)
 case atStart => exact ⟨0, by omega, rfl, by simpa [lettersTo] using hown, Below.refl _ _, hE⟩
 case round =>
  obtain ⟨k, hk, rfl, ho, hb, hEr⟩ := hrel
  have HE := LH hEr; clear hEr
  have HO := LH ho; clear ho
  by_cases hlt : k < s.size
  ·go_upto_region 4 with (fail)
   go_cut [37] (fun s37 wx => s37 = .bool (needB first k s[k]) ∧ wr = wx)
   case first =>
    rcases need_cases first k s[k] with ⟨g1, g2⟩ | ⟨g1, rfl, g2⟩ | ⟨g1, rfl, g3, g2⟩ | ⟨g1, rfl, g3, g4, g2⟩ | ⟨g1, rfl, g3, g4, g5, g2⟩ | ⟨g1, rfl, g3, g4, g5, g2⟩
    all_goals
     have G2 := LH g2; clear g2
     go_wp2_with fail
     refine (class_any s[k] _ HE.out).mono ?_
     rintro e w1 ⟨rfl, rfl⟩
     go_wp2
     go_meet
     exact ⟨by rw [G2.out], rfl⟩
   case rest =>
    obtain ⟨rfl, rfl⟩ := hcut
    generalize hn : needB first k s[k] = nb
    have HN := LH hn; clear hn
    have hBr := Nat.le_trans hB hb.size
    have hl := LH (lettersTo_length first s.data.toList k)
    have hb0 := u8_lt s[k]
    cases nb
    ·go_wp2_with (at_builtin; refine OwnB.append HO.out _ ?_ ?_ rfl _ _ rfl rfl rfl hBr ?_ ?_)
     ·omega
     ·omega
     ·have := hl.out; have := HS.out; rw [List.length_append]; omega
     ·intro v' w' h2 h3
      go_wp2
      go_roundw
      case rel =>
       refine ⟨k + 1, by omega, by go_num, ?_, hb.trans h3, (HE.out).belowB hEB h3⟩
       rw [letters_step hlt HN.out]
       simpa [ofNat_byte] using h2
      case measure => simp [intOf]; omega
    ·go_wp2_with (at_builtin; refine OwnB.append HO.out _ ?_ ?_ rfl _ _ rfl rfl rfl hBr ?_ ?_)
     ·omega
     ·omega
     ·have := hl.out; have := HS.out; rw [List.length_append]; omega
     ·intro v' w' h2 h3
      have H2 := LH h2; clear h2
      have hBr2 := Nat.le_trans hBr h3.size
      go_wp2_with (at_builtin; refine OwnB.append H2.out _ ?_ ?_ rfl _ _ rfl rfl rfl hBr2 ?_ ?_)
      ·omega
      ·omega
      ·have := hl.out; have := HS.out; simp only [List.length_append, List.length_singleton]; omega
      ·intro v2 w2 h4 h5
       go_wp2
       go_roundw
       case rel =>
        refine ⟨k + 1, by omega, by go_num, ?_, (hb.trans h3).trans h5, (HE.out).belowB hEB (h3.trans h5)⟩
        rw [letters_step hlt HN.out]
        simpa [ofNat_byte] using h4
       case measure => simp [intOf]; omega
  ·have he := LH (letters_end (first := first) hk hlt)
   go_wp2
   go_ret
   exact ⟨_, rfl, by rw [← he.out]; exact HO.out, hb⟩
theorem word_any (s : ByteArray) (w : World) (hE : ClsEnv w) (hs : s.size ≤ 900000000000) :
  Calls Tryd.prog 57 #[.string s] w fun e w' => e = .returned (.string (str (wordL s.data.toList))) ∧ Below w.heap.size w w' := by
 have hs1 : s.size ≤ 900000000000 := hs
 by_cases hk : kwd s.data.toList = 1
 ·have hkb : (kwd s.data.toList != 1) = false := by rw [hk]; rfl
  have HK := LH hk; clear hk
  go_enter Tryd.func57, Tryd.ntmps57
  go_wp2_with fail
  refine (keyword_any s _).mono ?_
  rintro e w1 ⟨rfl, rfl⟩
  go_wp2_with fail
  refine (letters_any s true _ w.heap.size [] w hE (OwnB.nil _ _) (Nat.le_refl _) hE.2 (by simp; omega)).mono ?_
  rintro e w1 hR
  obtain ⟨v, rfl, ho, hb⟩ := hR
  have HC := LH ho.conv
  clear ho
  go_wp2_with fail
  simp only [HC.out, Result.andThen]
  go_wp2
  go_ret
  exact ⟨by unfold wordL; rw [if_neg (by rw [HK.out]; simp)]; rfl, hb⟩
 ·have hkb : (kwd s.data.toList != 1) = true := by simp [hk]
  have HK := LH hk; clear hk
  go_enter Tryd.func57, Tryd.ntmps57
  go_wp2_with fail
  refine (keyword_any s _).mono ?_
  rintro e w1 ⟨rfl, rfl⟩
  go_wp2
  go_ret
  refine ⟨?_, Below.refl _ _⟩
  have e : (⟨#[92]⟩ : ByteArray) ++ s = str (wordL s.data.toList) := ba_ext (by rw [ba_append, str_data]; unfold wordL; rw [if_pos HK.out]; rfl)
  rw [← e]; rfl
theorem patSg_pos (f : Bool) (x : Sg) : 1 ≤ (patSg f x).length := by
 unfold patSg esc
 repeat' split
 all_goals simp
theorem patTo_pos (l : List Sg) : ∀ m, m ≤ l.length → m ≤ (patTo l m).length
 | 0, _ => by simp
 | m + 1, h => by
  have := patTo_pos l m (by omega)
  have h2 := patSg_pos (m == 0) (l[m]'(by omega))
  rw [patTo_succ l m (by omega), List.length_append]; omega
theorem patTo_zero (l : List Sg) (m : Nat) (h : m ≤ l.length) : (((patTo l m).length : Int) == 0) = (m == 0) := by
 have h1 := patTo_pos l m h
 have h2 := patTo_length l m
 rw [Bool.eq_iff_iff]; simp only [beq_iff_eq]
 constructor
 ·intro h; omega
 ·intro h; subst h; simp [patTo]
theorem signsB_plain (s : ByteArray) {k : Nat} (h : k < s.size) (h92 : s[k] ≠ 92 ∨ s.size ≤ k + 1) : signsFrom (s.data.toList.drop k) k = ⟨s[k], false, k, 1⟩ :: signsFrom (s.data.toList.drop (k + 1)) (k + 1) :=
 signs_plain (l := s.data.toList) (by rw [← ba_size]; exact h) (h92.imp id fun h => by rw [← ba_size]; exact h)
theorem signsB_letter (s : ByteArray) {k : Nat} (h : k + 1 < s.size) (h92 : s[k] = 92) : signsFrom (s.data.toList.drop k) k = ⟨s[k + 1], true, k, 2⟩ :: signsFrom (s.data.toList.drop (k + 2)) (k + 2) :=
 signs_letter (l := s.data.toList) (by rw [← ba_size]; exact h) h92
def PPos (s : ByteArray) (k m n : Nat) : Prop :=
 k ≤ s.size ∧ m ≤ k ∧ n ≤ k ∧ m ≤ (signs s.data.toList).length ∧ (signs s.data.toList).drop m = signsFrom (s.data.toList.drop k) k
  ∧ ((signs s.data.toList).take m).any wildSg = decide (n ≠ 0) ∧ ((signs s.data.toList).take m).any badSg = false
theorem PPos_start (s : ByteArray) : PPos s 0 0 0 := ⟨by omega, by omega, by omega, by omega, rfl, rfl, rfl⟩
theorem PPos_next {s : ByteArray} {k m n k2 n2 : Nat} {x : Sg} (h : PPos s k m n) (hx : signsFrom (s.data.toList.drop k) k = x :: signsFrom (s.data.toList.drop k2) k2) (hk : k < k2) (hk2 : k2 ≤ s.size)
  (hn : n2 = if wildSg x then n + 1 else n) (hb : badSg x = false) : PPos s k2 (m + 1) n2 ∧ patTo (signs s.data.toList) (m + 1) = patTo (signs s.data.toList) m ++ patSg (m == 0) x := by
 obtain ⟨h1, h2, h3, h4, h5, h6, h7⟩ := h
 rw [hx] at h5
 have hlt : m < (signs s.data.toList).length := by
  rcases Nat.lt_or_ge m (signs s.data.toList).length with h | h
  ·exact h
  ·rw [List.drop_eq_nil_of_le h] at h5; cases h5
 have e := List.drop_eq_getElem_cons hlt
 rw [h5] at e
 injection e with e1 e2
 refine ⟨⟨hk2, by omega, ?_, hlt, e2.symm, ?_, ?_⟩, by rw [patTo_succ _ _ hlt, ← e1]⟩
 ·subst hn; split <;> omega
 ·rw [any_take_snoc _ _ _ hlt, h6, ← e1, hn]
  cases wildSg x <;> simp
 ·rw [any_take_snoc _ _ _ hlt, h7, ← e1, hb]; rfl
theorem PPos_bad {s : ByteArray} {k m n : Nat} (h : PPos s k m n) (hk : k < s.size) (h92 : s[k] = 92) (he : s.size ≤ k + 1) : patternL s.data.toList = [] := by
 obtain ⟨h1, h2, h3, h4, h5, h6, h7⟩ := h
 have hx := signs_plain (l := s.data.toList) (k := k) (by rw [← ba_size]; exact hk) (.inr (by rw [← ba_size]; exact he))
 rw [hx] at h5
 have hb : (signs s.data.toList).any badSg = true := by
  rw [List.any_eq_true]
  refine ⟨_, List.mem_of_mem_drop (i := m) (by rw [h5]; exact List.mem_cons_self), ?_⟩
  show (!false && s[k] == 92) = true
  rw [h92]; rfl
 unfold patternL; rw [if_pos hb]
theorem PPos_end {s : ByteArray} {k m n : Nat} (h : PPos s k m n) (hk : ¬ k < s.size) : patternL s.data.toList = if n = 0 then [] else patTo (signs s.data.toList) m := by
 obtain ⟨h1, h2, h3, h4, h5, h6, h7⟩ := h
 rw [signs_none (by rw [← ba_size]; omega)] at h5
 have hm : m = (signs s.data.toList).length := by
  have := List.drop_eq_nil_iff.1 h5; omega
 have ht : (signs s.data.toList).take m = signs s.data.toList := List.take_of_length_le (by omega)
 rw [ht] at h6 h7
 unfold patternL
 rw [if_neg (by rw [h7]; simp), h6, ← hm]
 by_cases hn : n = 0 <;> simp [hn]
def PpRel (s : ByteArray) (w : World) (v wi i : Value) (wr : World) : Prop :=
 ∃ k m n : Nat, PPos s k m n ∧ i = .int .i64 k ∧ wi = .int .i64 n ∧ OwnB wr w.heap.size v (patTo (signs s.data.toList) m) ∧ Below w.heap.size w wr ∧ ClsEnv wr
theorem letters_one (f : Bool) (c : UInt8) : lettersL f [c] = esc f c := by simp [lettersL, lettersTo]
theorem extract_one (s : ByteArray) (k : Nat) (h : k < s.size) : (s.extract k (k + 1)).data.toList = [s[k]] := by
 rw [Lib.extract_data, drop_cons (by rw [← ba_size]; exact h)]
 simp; rfl
theorem pcls_92 {c : UInt8} (h : cls c = 4) : c = 92 := by
 have := beq_iff_eq.1 (esc_cls c)
 rw [h] at this
 simpa using this
theorem OwnB_form {w : World} {B : Nat} {v : Value} {l : List UInt8} (h : OwnB w B v l) : ∃ A cap, v = .slice A l.length cap := by
 rcases h.2 with ⟨rfl, h0⟩ | ⟨g, cap, cur, rfl, _⟩
 ·exact ⟨none, 0, by rw [h0]⟩
 ·exact ⟨_, cap, rfl⟩
theorem pattern_any (s : ByteArray) (w : World) (hs : s.size ≤ 900000000000) (hE : ClsEnv w) :
  Calls Tryd.prog 80 #[.string s] w (StrRet (str (patternL s.data.toList)) w) := by
 have hgw := hE.2
 have HE := LH hE; clear hE
 go_enter Tryd.func80, Tryd.ntmps80
 go_wp2
 go_loopw [3, 4, 5] (fun v wi i wr => PpRel s w v wi i wr) (fun _ _ i _ => s.size - (intOf i).toNat)
 case atStart => exact ⟨0, 0, 0, PPos_start s, rfl, rfl, OwnB.lit0 w (Nat.le_refl _), (Below.refl _ _).alloc (Nat.le_refl _) _, HE.out.below ((Below.refl _ _).alloc (Nat.le_refl _) _)⟩
 case round =>
  obtain ⟨k, m, n, hp, rfl, rfl, hob, hb, hE⟩ := hrel
  obtain ⟨A, cp, rfl⟩ := OwnB_form hob
  have HB := LH hob; clear hob
  have HEr := LH hE; clear hE HE
  have hk := hp.1
  have hn := hp.2.2.1
  have hz := patTo_zero (signs s.data.toList) m hp.2.2.2.1
  have hlq : (patTo (signs s.data.toList) m).length ≤ 1800000000000 := by have := patTo_length (signs s.data.toList) m; have := hp.2.1; omega
  have HP := LH hp; clear hp
  have HZ := LH hz; clear hz
  have hBr := hb.size
  by_cases hlt : k < s.size
  ·have hbx := u8_lt s[k]
   by_cases h3 : cls s[k] = 3
   ·have hcl : (cls s[k] == 3) = true := by rw [h3]; rfl
    have HX : Hid (wildSg ⟨s[k], false, k, 1⟩ = true ∧ badSg ⟨s[k], false, k, 1⟩ = false ∧ s[k] ≠ 92) := by
     have e : s[k] ≠ 92 := by intro e; rw [e] at h3; exact absurd h3 (by decide)
     exact ⟨by simp [wildSg, h3], by simp [badSg, e], e⟩
    clear h3
    go_wp2_with fail
    refine (class_any s[k] _ HEr.out).mono ?_
    rintro e w1 ⟨rfl, rfl⟩
    go_wp2_with (at_builtin; refine OwnB.appendAt HB.out _ _ rfl _ _ rfl rfl rfl ?_ ?_ ?_ hBr ?_ ?_)
    all_goals first | omega | exact (World.size_alloc ..).symm | skip
    intro v' w' h2 h3 h3k
    have H2 := LH h2; clear h2 h3k
    go_wp2
    go_roundw
    case rel =>
     obtain ⟨hp1, hp2⟩ := PPos_next HP.out (signsB_plain s hlt (.inl HX.out.2.2)) (Nat.lt_succ_self k) hlt (n2 := n + 1) (by rw [if_pos HX.out.1]) HX.out.2.1
     refine ⟨k + 1, m + 1, n + 1, hp1, by go_num, by go_num, ?_, hb.trans h3, HEr.out.belowB hgw h3⟩
     rw [hp2, show patSg (m == 0) ⟨s[k], false, k, 1⟩ = [s[k]] from by unfold patSg; rw [if_pos HX.out.1]]
     simpa [ofNat_byte] using H2.out
    case measure => simp [intOf]; omega
   ·have hcl3 : (cls s[k] == 3) = false := beq_eq_false_iff_ne.2 h3
    by_cases h4 : cls s[k] = 4
    ·have hcl4 : (cls s[k] == 4) = true := by rw [h4]; rfl
     have H92 := LH (pcls_92 h4)
     clear h3 h4
     by_cases hlt2 : k + 1 < s.size
     ·have hne : ((k : Int) + 1 == (s.size : Int)) = false := by rw [beq_eq_false_iff_ne]; omega
      go_wp2_with fail
      refine (class_any s[k] _ HEr.out).mono ?_
      rintro e w1 ⟨rfl, rfl⟩
      go_wp2_with fail
      refine (letters_any _ _ _ w.heap.size _ _ HEr.out HB.out hBr hgw ?_).mono ?_
      ·rw [ByteArray.size_extract]; omega
      rintro e w1 hR
      obtain ⟨v', rfl, ho, hb1⟩ := hR
      have H2 := LH ho; clear ho
      go_wp2
      go_roundw
      case rel =>
       obtain ⟨hp1, hp2⟩ := PPos_next HP.out (signsB_letter s hlt2 H92.out) (by omega : k < k + 2) (by omega) (n2 := n) rfl rfl
       refine ⟨k + 2, m + 1, n, hp1, by go_num, rfl, ?_, hb.trans hb1, HEr.out.belowB hgw hb1⟩
       have h2 := H2.out
       rw [extract_one s (k + 1) hlt2, letters_one, HZ.out] at h2
       rw [hp2]
       exact h2
      case measure => simp [intOf]; omega
     ·have hne : ((k : Int) + 1 == (s.size : Int)) = true := by rw [beq_iff_eq]; omega
      have HQ := LH (PPos_bad HP.out hlt H92.out (by omega))
      go_wp2_with fail
      refine (class_any s[k] _ HEr.out).mono ?_
      rintro e w1 ⟨rfl, rfl⟩
      go_wp2
      go_ret
      exact ⟨by rw [HQ.out]; rfl, hb⟩
    ·have hcl4 : (cls s[k] == 4) = false := beq_eq_false_iff_ne.2 h4
     have HX : Hid (wildSg ⟨s[k], false, k, 1⟩ = false ∧ badSg ⟨s[k], false, k, 1⟩ = false ∧ s[k] ≠ 92) := by
      have e : s[k] ≠ 92 := by intro e; rw [e] at h4; exact absurd rfl h4
      exact ⟨by simp [wildSg, h3], by simp [badSg, e], e⟩
     clear h3 h4
     go_wp2_with fail
     refine (class_any s[k] _ HEr.out).mono ?_
     rintro e w1 ⟨rfl, rfl⟩
     go_wp2_with fail
     refine (letters_any _ _ _ w.heap.size _ _ HEr.out HB.out hBr hgw ?_).mono ?_
     ·rw [ByteArray.size_extract]; omega
     rintro e w1 hR
     obtain ⟨v', rfl, ho, hb1⟩ := hR
     have H2 := LH ho; clear ho
     go_wp2
     go_roundw
     case rel =>
      obtain ⟨hp1, hp2⟩ := PPos_next HP.out (signsB_plain s hlt (.inl HX.out.2.2)) (Nat.lt_succ_self k) hlt (n2 := n) (by rw [if_neg (by rw [HX.out.1]; simp)]) HX.out.2.1
      refine ⟨k + 1, m + 1, n, hp1, by go_num, rfl, ?_, hb.trans hb1, HEr.out.belowB hgw hb1⟩
      have h2 := H2.out
      rw [extract_one s k hlt, letters_one, HZ.out] at h2
      rw [hp2, show patSg (m == 0) ⟨s[k], false, k, 1⟩ = esc (m == 0) s[k] from by unfold patSg; rw [if_neg (by rw [HX.out.1]; simp)]]
      exact h2
     case measure => simp [intOf]; omega
  ·have HQ := LH (PPos_end HP.out hlt)
   by_cases hn0 : n = 0
   ·have hz : ((n : Int) == 0) = true := by rw [hn0]; rfl
    have HR := LH (show patternL s.data.toList = [] from by rw [HQ.out, if_pos hn0])
    clear hn0
    go_wp2
    go_ret
    exact ⟨by rw [HR.out]; rfl, hb⟩
   ·have hz : ((n : Int) == 0) = false := by rw [beq_eq_false_iff_ne]; omega
    have HR := LH (show patternL s.data.toList = patTo (signs s.data.toList) m from by rw [HQ.out, if_neg hn0])
    have HC := LH HB.out.conv
    clear hn0
    go_wp2_with fail
    simp only [HC.out, Result.andThen]
    go_wp2
    go_ret
    exact ⟨by rw [HR.out]; rfl, hb⟩
end Go.Proofs.YthcldpminmhgkaaDoor
end
