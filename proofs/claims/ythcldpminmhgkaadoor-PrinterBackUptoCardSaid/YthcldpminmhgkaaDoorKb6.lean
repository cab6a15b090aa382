/- Merged for a claim by shake.py: Bk -/
import Derived.Test.YthcldpminmhgkaaDoorKb5
set_option maxRecDepth 100000
set_option maxHeartbeats 1000000
set_option linter.unusedVariables false
section
namespace Go.Proofs.YthcldpminmhgkaaDoor
inductive At where
 | pl (c : UInt8)
 | es (c : UInt8)
 | wi (c : UInt8)
def At.b : At → List UInt8
 | .pl c => [c]
 | .es c => [92, c]
 | .wi c => [c]
def At.ok : At → Prop
 | .pl c => cls c = 0
 | .es _ => True
 | .wi c => cls c = 3
def At.rn : At → Rn
 | .pl c => ⟨[c], [c], 0, 1⟩
 | .es c => ⟨[c], pe c, 0, 2⟩
 | .wi c => ⟨[], [c], 1, 1⟩
def At.isWi : At → Bool
 | .wi _ => true
 | _ => false
def atB (l : List At) : List UInt8 := l.flatMap At.b
def atRn (l : List At) : Rn := l.foldr (fun a r => Rn.add a.rn r) ⟨[], [], 0, 0⟩
theorem atB_cons (a : At) (l : List At) : atB (a :: l) = a.b ++ atB l := rfl
theorem atRn_cons (a : At) (l : List At) : atRn (a :: l) = Rn.add a.rn (atRn l) := rfl
theorem cls92 : cls 92 = 4 := by decide
theorem runL_at_pl (c : UInt8) (t : List UInt8) (h : cls c = 0) : runL (c :: t) = (runL t).map (Rn.add ⟨[c], [c], 0, 1⟩) := by
 cases t <;> simp [runL, h, Rn.add]
theorem runL_at_wi (c : UInt8) (t : List UInt8) (h : cls c = 3) : runL (c :: t) = (runL t).map (Rn.add ⟨[], [c], 1, 1⟩) := by
 cases t <;> simp [runL, h, Rn.add]
theorem runL_at_es (c : UInt8) (t : List UInt8) : runL (92 :: c :: t) = (runL t).map (Rn.add ⟨[c], pe c, 0, 2⟩) := by
 simp [runL, cls92]
theorem runL_at : ∀ (l : List At), (∀ a ∈ l, a.ok) → runL (atB l) = some (atRn l)
 | [], _ => rfl
 | a :: l, h => by
  have ih := runL_at l (fun x hx => h x (List.mem_cons_of_mem _ hx))
  have ha := h a List.mem_cons_self
  rw [atB_cons, atRn_cons]
  cases a with
  | pl c => rw [show At.b (.pl c) ++ atB l = c :: atB l from rfl, runL_at_pl c _ ha, ih]; rfl
  | es c => rw [show At.b (.es c) ++ atB l = 92 :: c :: atB l from rfl, runL_at_es, ih]; rfl
  | wi c => rw [show At.b (.wi c) ++ atB l = c :: atB l from rfl, runL_at_wi c _ ha, ih]; rfl
theorem atRn_len (l : List At) : (atRn l).len = (atB l).length := by
 induction l with
 | nil => rfl
 | cons a l ih =>
  rw [atB_cons, atRn_cons, List.length_append, ← ih]
  cases a <;> rfl
def At.run1 : At → Prop
 | .pl c => c ≠ 43 ∧ c ≠ 45
 | _ => True
theorem pl_run {c : UInt8} (h : cls c = 0) (h1 : c ≠ 43) (h2 : c ≠ 45) : singleK c = 0 ∧ c ≠ 34 ∧ c ≠ 94 ∧ c ≠ 126 ∧ c ≠ 64 := by
 have := all_bytes' (p := fun c => decide (cls c = 0 → c ≠ 43 → c ≠ 45 → singleK c = 0 ∧ c ≠ 34 ∧ c ≠ 94 ∧ c ≠ 126 ∧ c ≠ 64)) (by decide +kernel) c
 exact of_decide_eq_true this h h1 h2
theorem wi_run {c : UInt8} (h : cls c = 3) : singleK c = 0 ∧ c ≠ 34 ∧ c ≠ 94 ∧ c ≠ 126 ∧ c ≠ 64 := by
 have := all_bytes' (p := fun c => decide (cls c = 3 → singleK c = 0 ∧ c ≠ 34 ∧ c ≠ 94 ∧ c ≠ 126 ∧ c ≠ 64)) (by decide +kernel) c
 exact of_decide_eq_true this h
theorem tokOf_run {c : UInt8} (t : List UInt8) (h : singleK c = 0) (h1 : c ≠ 34) (h2 : c ≠ 94) (h3 : c ≠ 126) (h4 : c ≠ 64) : tokOf (c :: t) = runTk (c :: t) := by
 rw [tokOf, if_neg (fun h' => h' h), if_neg h1, if_neg h2, if_neg h3, if_neg h4]
theorem tokOf_at {l : List At} (h : ∀ a ∈ l, a.ok) (h0 : l ≠ []) (h1 : ∀ a, l.head? = some a → a.run1) : tokOf (atB l) = runTk (atB l) := by
 cases l with
 | nil => exact absurd rfl h0
 | cons a l =>
  have ha := h a List.mem_cons_self
  have hr := h1 a rfl
  cases a with
  | pl c =>
   obtain ⟨a1, a2, a3, a4, a5⟩ := pl_run ha hr.1 hr.2
   exact tokOf_run _ a1 a2 a3 a4 a5
  | es c => exact tokOf_run _ (by decide) (by decide) (by decide) (by decide) (by decide)
  | wi c =>
   obtain ⟨a1, a2, a3, a4, a5⟩ := wi_run ha
   exact tokOf_run _ a1 a2 a3 a4 a5
theorem head_at {l : List At} (h : ∀ a ∈ l, a.ok) {c : UInt8} {t : List UInt8} (he : atB l = c :: t) : cls c ≠ 1 := by
 cases l with
 | nil => cases he
 | cons a l =>
  have ha := h a List.mem_cons_self
  rw [atB_cons] at he
  cases a with
  | pl d => cases he; rw [show cls c = 0 from ha]; decide
  | es d => cases he; decide
  | wi d => cases he; rw [show cls c = 3 from ha]; decide
theorem scan_one {l : List UInt8} {k : Tk} (h : tokOf l = some k) (hl : k.len = l.length) (hc : ∀ c t, l = c :: t → cls c ≠ 1) : scanL l = ([⟨k.kind, k.text, k.n, 0, l.length⟩, ⟨0, [], 0, l.length, l.length⟩], none) := by
 cases l with
 | nil => cases h
 | cons c t =>
  unfold scanL
  rw [scanF, if_neg (hc c t rfl), h]
  simp only []
  rw [hl, List.drop_length, List.length_cons, scanF]
  simp [ahead, Tk.lx, hl]
theorem atRn_wilds (l : List At) : (atRn l).wilds = (l.filter At.isWi).length := by
 induction l with
 | nil => rfl
 | cons a l ih =>
  rw [atRn_cons, List.filter_cons]
  cases a <;> simp [Rn.add, At.rn, At.isWi, ih]; omega
theorem scan_pat {l : List At} (h : ∀ a ∈ l, a.ok) (h1 : ∀ a, l.head? = some a → a.run1) (hw : l.any At.isWi = true) :
  scanL (atB l) = ([⟨2, (atRn l).pat, 0, 0, (atB l).length⟩, ⟨0, [], 0, (atB l).length, (atB l).length⟩], none) := by
 have h0 : l ≠ [] := by intro e; subst e; simp at hw
 have hwp : 0 < (atRn l).wilds := by
  rw [atRn_wilds]
  obtain ⟨a, ha, hb⟩ := List.any_eq_true.1 hw
  exact List.length_pos_of_mem (List.mem_filter.2 ⟨ha, hb⟩)
 have ht : tokOf (atB l) = some ⟨2, (atRn l).pat, 0, (atRn l).len⟩ := by
  rw [tokOf_at h h0 h1]
  unfold runTk
  rw [runL_at l h, Option.map_some, if_pos hwp]
 exact scan_one ht (atRn_len l) (fun c t he => head_at h he)
theorem scan_word {l : List At} (h : ∀ a ∈ l, a.ok) (h0 : l ≠ []) (h1 : ∀ a, l.head? = some a → a.run1) (hw : l.any At.isWi = false) (hk : kwd (atB l) = 1) :
  scanL (atB l) = ([⟨1, (atRn l).text, 0, 0, (atB l).length⟩, ⟨0, [], 0, (atB l).length, (atB l).length⟩], none) := by
 have hwp : ¬ 0 < (atRn l).wilds := by
  rw [atRn_wilds]
  rw [List.any_eq_false] at hw
  have : l.filter At.isWi = [] := List.filter_eq_nil_iff.2 hw
  rw [this]; simp
 have ht : tokOf (atB l) = some ⟨1, (atRn l).text, 0, (atRn l).len⟩ := by
  rw [tokOf_at h h0 h1]
  unfold runTk
  rw [runL_at l h, Option.map_some, if_neg hwp, atRn_len, List.take_length, hk, if_pos rfl]
 exact scan_one ht (atRn_len l) (fun c t he => head_at h he)
def eAt (first : Bool) (c : UInt8) : At := if cls c ≠ 0 ∨ (first = true ∧ (c = 43 ∨ c = 45)) then .es c else .pl c
theorem eAt_b (f : Bool) (c : UInt8) : (eAt f c).b = esc f c := by unfold eAt esc; split <;> rfl
theorem eAt_ok (f : Bool) (c : UInt8) : (eAt f c).ok := by
 unfold eAt
 split
 ·trivial
 ·rename_i h
  show cls c = 0
  exact Classical.byContradiction fun h' => h (.inl h')
theorem eAt_run1 (c : UInt8) : (eAt true c).run1 := by
 unfold eAt
 split
 ·trivial
 ·rename_i h
  exact ⟨fun e => h (.inr ⟨rfl, .inl e⟩), fun e => h (.inr ⟨rfl, .inr e⟩)⟩
theorem eAt_isWi (f : Bool) (c : UInt8) : (eAt f c).isWi = false := by unfold eAt; split <;> rfl
theorem eAt_text (f : Bool) (c : UInt8) : (eAt f c).rn.text = [c] := by unfold eAt; split <;> rfl
def lAt (first : Bool) : List UInt8 → List At
 | [] => []
 | c :: t => eAt first c :: t.map (eAt false)
theorem lettersTo_cons (f : Bool) (c : UInt8) (t : List UInt8) (k : Nat) (hk : k ≤ t.length) : lettersTo f (c :: t) (k + 1) = esc f c ++ (t.take k).flatMap (esc false) := by
 induction k with
 | zero => simp [lettersTo]
 | succ k ih =>
  rw [lettersTo, ih (by omega), List.append_assoc]
  congr 1
  have e : (f && (k + 1 == 0)) = false := by simp
  have hk' : k < t.length := by omega
  rw [e, List.take_succ_eq_append_getElem hk', List.flatMap_append]
  simp [hk']
theorem lettersL_at (f : Bool) (l : List UInt8) : lettersL f l = atB (lAt f l) := by
 unfold lettersL
 cases l with
 | nil => rfl
 | cons c t =>
  rw [List.length_cons, lettersTo_cons f c t t.length (Nat.le_refl _), List.take_length]
  unfold lAt
  rw [atB_cons, eAt_b]
  congr 1
  unfold atB
  rw [List.flatMap_map]
  congr 1
  funext x
  exact (eAt_b false x).symm
theorem lAt_ok (f : Bool) (l : List UInt8) : ∀ a ∈ lAt f l, a.ok := by
 cases l with
 | nil => intro a h; cases h
 | cons c t =>
  intro a h
  unfold lAt at h
  rcases List.mem_cons.1 h with rfl | h
  ·exact eAt_ok f c
  ·obtain ⟨x, _, rfl⟩ := List.mem_map.1 h
   exact eAt_ok false x
theorem lAt_wi (f : Bool) (l : List UInt8) : (lAt f l).any At.isWi = false := by
 rw [List.any_eq_false]
 cases l with
 | nil => intro a h; cases h
 | cons c t =>
  intro a h
  unfold lAt at h
  rcases List.mem_cons.1 h with rfl | h
  ·rw [eAt_isWi]; decide
  ·obtain ⟨x, _, rfl⟩ := List.mem_map.1 h
   rw [eAt_isWi]; decide
theorem atRn_map_text (t : List UInt8) : (atRn (t.map (eAt false))).text = t := by
 induction t with
 | nil => rfl
 | cons c t ih =>
  rw [List.map_cons, atRn_cons]
  show (eAt false c).rn.text ++ (atRn (t.map (eAt false))).text = c :: t
  rw [ih, eAt_text]; rfl
theorem lAt_text (f : Bool) (l : List UInt8) : (atRn (lAt f l)).text = l := by
 cases l with
 | nil => rfl
 | cons c t =>
  unfold lAt
  rw [atRn_cons]
  show (eAt f c).rn.text ++ (atRn (t.map (eAt false))).text = c :: t
  rw [atRn_map_text, eAt_text]; rfl
theorem at_plain : ∀ (l : List At), (∀ a ∈ l, a.ok) → l.any At.isWi = false → (92 : UInt8) ∉ atB l → (atRn l).text = atB l
 | [], _, _, _ => rfl
 | a :: l, h, hw, hn => by
  rw [List.any_cons, Bool.or_eq_false_iff] at hw
  rw [atB_cons] at hn
  have ih := at_plain l (fun x hx => h x (List.mem_cons_of_mem _ hx)) hw.2 (fun hm => hn (List.mem_append.2 (.inr hm)))
  rw [atRn_cons, atB_cons]
  show a.rn.text ++ (atRn l).text = _
  rw [ih]
  congr 1
  cases a with
  | pl c => rfl
  | es c => exact absurd (List.mem_append.2 (.inl List.mem_cons_self)) hn
  | wi c => cases hw.1
theorem kwd_1or (l : List UInt8) : kwd l = 1 ∨ l = [65, 78, 68] ∨ l = [79, 82] ∨ l = [78, 79, 84] ∨ l = [84, 79] := by
 unfold kwd
 split
 ·exact .inr (.inl ‹_›)
 ·split
  ·exact .inr (.inr (.inl ‹_›))
  ·split
   ·exact .inr (.inr (.inr (.inl ‹_›)))
   ·split
    ·exact .inr (.inr (.inr (.inr ‹_›)))
    ·exact .inl rfl
theorem word_back {s : List UInt8} (h : s ≠ []) : scanL (wordL s) = ([⟨1, s, 0, 0, (wordL s).length⟩, ⟨0, [], 0, (wordL s).length, (wordL s).length⟩], none) := by
 unfold wordL
 by_cases hk : kwd s ≠ 1
 ·rw [if_pos hk]
  have hs : s = [65, 78, 68] ∨ s = [79, 82] ∨ s = [78, 79, 84] ∨ s = [84, 79] := by
   rcases kwd_1or s with h | h
   ·exact absurd h hk
   ·exact h
  rcases hs with rfl | rfl | rfl | rfl <;> rfl
 ·rw [if_neg hk]
  have hk1 : kwd s = 1 := Classical.byContradiction fun h => hk h
  rw [lettersL_at]
  have h0 : lAt true s ≠ [] := by cases s with | nil => exact absurd rfl h | cons c t => simp [lAt]
  have h1 : ∀ a, (lAt true s).head? = some a → a.run1 := by
   cases s with
   | nil => exact absurd rfl h
   | cons c t => intro a ha; cases ha; exact eAt_run1 c
  have hkw : kwd (atB (lAt true s)) = 1 := by
   rcases kwd_1or (atB (lAt true s)) with h | h
   ·exact h
   ·have hn : (92 : UInt8) ∉ atB (lAt true s) := by rcases h with h | h | h | h <;> (rw [h]; decide)
    have := at_plain _ (lAt_ok true s) (lAt_wi true s) hn
    rw [lAt_text] at this
    rw [← this]; exact hk1
  have := scan_word (lAt_ok true s) h0 h1 (lAt_wi true s) hkw
  rw [lAt_text] at this
  exact this
theorem quoteTo_eq (l : List UInt8) (k : Nat) (hk : k ≤ l.length) : quoteTo l k = 34 :: (l.take k).flatMap qesc := by
 induction k with
 | zero => simp [quoteTo]
 | succ k ih =>
  have hk' : k < l.length := by omega
  rw [quoteTo, ih (by omega), List.take_succ_eq_append_getElem hk', List.flatMap_append]
  simp [hk']
theorem quotedL_other' {c : UInt8} (t : List UInt8) (h1 : c ≠ 34) (h2 : c ≠ 92) : quotedL (c :: t) = (quotedL t).map (fun x => (c :: x.1, x.2 + 1)) := by
 cases t with
 | nil => simp [quotedL, h1]
 | cons d t => rw [quotedL, if_neg h1, if_neg h2]
theorem quotedL_back (l : List UInt8) : quotedL (l.flatMap qesc ++ [34]) = some (l, (l.flatMap qesc).length + 1) := by
 induction l with
 | nil => rfl
 | cons c l ih =>
  rw [List.flatMap_cons, List.append_assoc]
  by_cases h : c = 34 ∨ c = 92
  ·have e : qesc c = [92, c] := by unfold qesc; rw [if_pos h]
   rw [e]
   show quotedL (92 :: c :: (l.flatMap qesc ++ [34])) = _
   rw [quotedL, if_neg (by decide), if_pos rfl, ih, Option.map_some, List.length_append, List.length_cons, List.length_cons, List.length_nil]
   congr 2; omega
  ·have e : qesc c = [c] := by unfold qesc; rw [if_neg h]
   rw [e]
   show quotedL (c :: (l.flatMap qesc ++ [34])) = _
   rw [quotedL_other' _ (fun e => h (.inl e)) (fun e => h (.inr e)), ih, Option.map_some, List.length_append, List.length_cons, List.length_nil]
   congr 2; omega
theorem quote_back (s : List UInt8) : scanL (quoteL s) = ([⟨3, s, 0, 0, (quoteL s).length⟩, ⟨0, [], 0, (quoteL s).length, (quoteL s).length⟩], none) := by
 have e : quoteL s = 34 :: (s.flatMap qesc ++ [34]) := by
  unfold quoteL
  rw [quoteTo_eq s s.length (Nat.le_refl _), List.take_length]; rfl
 rw [e]
 have ht : tokOf (34 :: (s.flatMap qesc ++ [34])) = some ⟨3, s, 0, (s.flatMap qesc).length + 1 + 1⟩ := by
  rw [tokOf, if_neg (by decide), if_pos rfl, quotedL_back]; rfl
 exact scan_one ht (by simp) (fun c t h => by cases h; decide)
def At.sg (a : At) (i : Nat) : Sg := match a with
 | .pl c => ⟨c, false, i, 1⟩
 | .es c => ⟨c, true, i, 2⟩
 | .wi c => ⟨c, false, i, 1⟩
def At.nb : At → Prop
 | .pl c => c ≠ 92
 | .es _ => True
 | .wi c => cls c = 3
def sgsFrom : List At → Nat → List Sg
 | [], _ => []
 | a :: l, i => a.sg i :: sgsFrom l (i + a.b.length)
theorem signsFrom_ne {c : UInt8} (t : List UInt8) (i : Nat) (h : c ≠ 92) : signsFrom (c :: t) i = ⟨c, false, i, 1⟩ :: signsFrom t (i + 1) := by
 cases t with
 | nil => rfl
 | cons d t => rw [signsFrom, if_neg h]
theorem wi_ne {c : UInt8} (h : cls c = 3) : c ≠ 92 := by intro e; subst e; exact absurd h (by decide)
theorem signs_at (z : List UInt8) : ∀ (l : List At) (i : Nat), (∀ a ∈ l, a.nb) → signsFrom (atB l ++ z) i = sgsFrom l i ++ signsFrom z (i + (atB l).length)
 | [], i, _ => by simp [atB, sgsFrom]
 | a :: l, i, h => by
  have ih := signs_at z l (i + a.b.length) (fun x hx => h x (List.mem_cons_of_mem _ hx))
  have ha := h a List.mem_cons_self
  rw [atB_cons, List.append_assoc, sgsFrom, List.cons_append]
  cases a with
  | pl c =>
   rw [show At.b (.pl c) ++ (atB l ++ z) = c :: (atB l ++ z) from rfl, signsFrom_ne _ _ ha]
   rw [show At.b (.pl c) = [c] from rfl] at ih ⊢
   simp only [List.length_cons, List.length_nil, Nat.zero_add] at ih
   have e2 : i + 1 + (atB l).length = i + ([c] ++ atB l).length := by simp; omega
   rw [← e2, ih]; rfl
  | es c =>
   rw [show At.b (.es c) ++ (atB l ++ z) = 92 :: c :: (atB l ++ z) from rfl, signsFrom, if_pos rfl]
   rw [show At.b (.es c) = [92, c] from rfl] at ih ⊢
   simp only [List.length_cons, List.length_nil, Nat.zero_add] at ih
   have e2 : i + 2 + (atB l).length = i + ([92, c] ++ atB l).length := by simp; omega
   rw [← e2, ih]; rfl
  | wi c =>
   rw [show At.b (.wi c) ++ (atB l ++ z) = c :: (atB l ++ z) from rfl, signsFrom_ne _ _ (wi_ne ha)]
   rw [show At.b (.wi c) = [c] from rfl] at ih ⊢
   simp only [List.length_cons, List.length_nil, Nat.zero_add] at ih
   have e2 : i + 1 + (atB l).length = i + ([c] ++ atB l).length := by simp; omega
   rw [← e2, ih]; rfl
theorem signs_atB (l : List At) (h : ∀ a ∈ l, a.nb) : signs (atB l) = sgsFrom l 0 := by
 have := signs_at [] l 0 h
 rw [List.append_nil] at this
 unfold signs
 rw [this]; simp [signsFrom]
inductive Bpt where
 | le (c : UInt8)
 | wi (c : UInt8)
def Bpt.p : Bpt → At
 | .le c => .es c
 | .wi c => .wi c
def Bpt.c : Bpt → At
 | .le c => if c = 42 ∨ c = 63 ∨ c = 92 then .es c else .pl c
 | .wi c => .wi c
def Bpt.ok : Bpt → Prop
 | .le _ => True
 | .wi c => cls c = 3
def Bpt.w (first : Bool) : Bpt → At
 | .le c => eAt first c
 | .wi c => .wi c
def Bpt.isWi : Bpt → Bool
 | .wi _ => true
 | _ => false
theorem cls34 (c : UInt8) : (cls c = 3 ∨ cls c = 4) ↔ (c = 42 ∨ c = 63 ∨ c = 92) := by
 have := all_bytes' (p := fun c => decide ((cls c = 3 ∨ cls c = 4) ↔ (c = 42 ∨ c = 63 ∨ c = 92))) (by decide +kernel) c
 exact of_decide_eq_true this
theorem cls_4 (c : UInt8) : cls c = 4 ↔ c = 92 := by
 have := all_bytes' (p := fun c => decide (cls c = 4 ↔ c = 92)) (by decide +kernel) c
 exact of_decide_eq_true this
theorem Bpt.p_nb {x : Bpt} (h : x.ok) : x.p.nb := by cases x with | le c => trivial | wi c => exact h
theorem Bpt.c_nb {x : Bpt} (h : x.ok) : x.c.nb := by
 cases x with
 | le c =>
  show (if c = 42 ∨ c = 63 ∨ c = 92 then At.es c else At.pl c).nb
  split
  ·trivial
  ·rename_i h; exact fun e => h (.inr (.inr e))
 | wi c => exact h
def ptP (l : List Bpt) : List UInt8 := atB (l.map Bpt.p)
def ptC (l : List Bpt) : List UInt8 := atB (l.map Bpt.c)
def ptW : List Bpt → List At
 | [] => []
 | x :: t => x.w true :: t.map (Bpt.w false)
theorem patSg_at (f : Bool) (i : Nat) (x : Bpt) (h : x.ok) : patSg f (x.p.sg i) = (x.w f).b ∧ patSg f (x.c.sg i) = (x.w f).b ∧ badSg (x.p.sg i) = false ∧ badSg (x.c.sg i) = false ∧ wildSg (x.p.sg i) = x.isWi ∧ wildSg (x.c.sg i) = x.isWi := by
 cases x with
 | wi c =>
  have h3 : cls c = 3 := h
  have h92 : (c == 92) = false := beq_eq_false_iff_ne.2 (wi_ne h3)
  have hw : wildSg ⟨c, false, i, 1⟩ = true := by unfold wildSg; simp [h3]
  have hb : badSg ⟨c, false, i, 1⟩ = false := by unfold badSg; simp [wi_ne h3]
  refine ⟨?_, ?_, hb, hb, hw, hw⟩ <;> (show patSg f ⟨c, false, i, 1⟩ = [c]; unfold patSg; rw [if_pos hw])
 | le c =>
  have hw1 : ∀ i k, wildSg ⟨c, true, i, k⟩ = false := fun i k => by unfold wildSg; simp
  have hb1 : ∀ i k, badSg ⟨c, true, i, k⟩ = false := fun i k => by unfold badSg; simp
  have hp1 : ∀ i k, patSg f ⟨c, true, i, k⟩ = (eAt f c).b := fun i k => by unfold patSg; rw [hw1, eAt_b]; simp
  by_cases hc : c = 42 ∨ c = 63 ∨ c = 92
  ·have e : Bpt.c (.le c) = .es c := if_pos hc
   rw [e]
   exact ⟨hp1 _ _, hp1 _ _, hb1 _ _, hb1 _ _, hw1 _ _, hw1 _ _⟩
  ·have e : Bpt.c (.le c) = .pl c := if_neg hc
   have h34 : ¬ (cls c = 3 ∨ cls c = 4) := fun h => hc ((cls34 c).1 h)
   have hw2 : wildSg ⟨c, false, i, 1⟩ = false := by unfold wildSg; simp; exact fun h => h34 (.inl h)
   have hb2 : badSg ⟨c, false, i, 1⟩ = false := by unfold badSg; simp; exact fun h => hc (.inr (.inr h))
   rw [e]
   refine ⟨hp1 _ _, ?_, hb1 _ _, hb2, hw1 _ _, hw2⟩
   show patSg f ⟨c, false, i, 1⟩ = (eAt f c).b
   unfold patSg; rw [hw2, eAt_b]; simp
theorem patTo_cons (x : Sg) (t : List Sg) (k : Nat) (hk : k ≤ t.length) : patTo (x :: t) (k + 1) = patSg true x ++ (t.take k).flatMap (patSg false) := by
 induction k with
 | zero => simp [patTo]
 | succ k ih =>
  have hk' : k < t.length := by omega
  rw [patTo_succ _ _ (by simpa using hk'), ih (by omega), List.append_assoc, List.take_succ_eq_append_getElem hk', List.flatMap_append]
  congr 1
  have e : (k + 1 == 0) = false := by simp
  rw [e]
  simp
theorem flat_at (g : Bpt → At) (f : Bool) (hg : ∀ (i : Nat) (x : Bpt), x.ok → patSg f ((g x).sg i) = (x.w f).b) : ∀ (t : List Bpt) (i : Nat), (∀ x ∈ t, x.ok) → (sgsFrom (t.map g) i).flatMap (patSg f) = atB (t.map (Bpt.w f))
 | [], _, _ => rfl
 | x :: t, i, h => by
  rw [List.map_cons, List.map_cons, sgsFrom, List.flatMap_cons, hg i x (h x List.mem_cons_self), flat_at g f hg t _ (fun y hy => h y (List.mem_cons_of_mem _ hy)), atB_cons]
theorem any_at (g : Bpt → At) (p : Sg → Bool) (q : Bpt → Bool) (hg : ∀ (i : Nat) (x : Bpt), x.ok → p ((g x).sg i) = q x) : ∀ (t : List Bpt) (i : Nat), (∀ x ∈ t, x.ok) → (sgsFrom (t.map g) i).any p = t.any q
 | [], _, _ => rfl
 | x :: t, i, h => by
  rw [List.map_cons, sgsFrom, List.any_cons, List.any_cons, hg i x (h x List.mem_cons_self), any_at g p q hg t _ (fun y hy => h y (List.mem_cons_of_mem _ hy))]
theorem sgs_length (l : List At) (i : Nat) : (sgsFrom l i).length = l.length := by
 induction l generalizing i with
 | nil => rfl
 | cons a l ih => rw [sgsFrom, List.length_cons, ih, List.length_cons]
theorem pattern_at (g : Bpt → At) (hg : ∀ (f : Bool) (i : Nat) (x : Bpt), x.ok → patSg f ((g x).sg i) = (x.w f).b) (hb : ∀ (i : Nat) (x : Bpt), x.ok → badSg ((g x).sg i) = false)
  (hw : ∀ (i : Nat) (x : Bpt), x.ok → wildSg ((g x).sg i) = x.isWi) (hn : ∀ x : Bpt, x.ok → (g x).nb) (l : List Bpt) (h : ∀ x ∈ l, x.ok) :
  patternL (atB (l.map g)) = if l.any Bpt.isWi then atB (ptW l) else [] := by
 have hs : signs (atB (l.map g)) = sgsFrom (l.map g) 0 := signs_atB _ (fun a ha => by obtain ⟨x, hx, rfl⟩ := List.mem_map.1 ha; exact hn x (h x hx))
 unfold patternL
 rw [hs, any_at g badSg (fun _ => false) hb l 0 h, any_at g wildSg Bpt.isWi hw l 0 h, if_neg (by simp)]
 congr 1
 cases l with
 | nil => rfl
 | cons x t =>
  rw [sgs_length, List.length_map, List.length_cons, List.map_cons, sgsFrom, patTo_cons _ _ _ (by rw [sgs_length, List.length_map]; exact Nat.le_refl _),
   List.take_of_length_le (by rw [sgs_length, List.length_map]; exact Nat.le_refl _), hg true 0 x (h x List.mem_cons_self), flat_at g false (hg false) t _ (fun y hy => h y (List.mem_cons_of_mem _ hy))]
  rfl
theorem pattern_p (l : List Bpt) (h : ∀ x ∈ l, x.ok) : patternL (ptP l) = if l.any Bpt.isWi then atB (ptW l) else [] :=
 pattern_at Bpt.p (fun f i x hx => (patSg_at f i x hx).1) (fun i x hx => (patSg_at true i x hx).2.2.1) (fun i x hx => (patSg_at true i x hx).2.2.2.2.1) (fun x hx => Bpt.p_nb hx) l h
theorem pattern_c (l : List Bpt) (h : ∀ x ∈ l, x.ok) : patternL (ptC l) = if l.any Bpt.isWi then atB (ptW l) else [] :=
 pattern_at Bpt.c (fun f i x hx => (patSg_at f i x hx).2.1) (fun i x hx => (patSg_at true i x hx).2.2.2.1) (fun i x hx => (patSg_at true i x hx).2.2.2.2.2) (fun x hx => Bpt.c_nb hx) l h
theorem ptW_ok (l : List Bpt) (h : ∀ x ∈ l, x.ok) : ∀ a ∈ ptW l, a.ok := by
 have hx1 : ∀ (f : Bool) (x : Bpt), x.ok → (x.w f).ok := fun f x hx => by
  cases x with
  | le c => exact eAt_ok f c
  | wi c => exact hx
 cases l with
 | nil => intro a ha; cases ha
 | cons x t =>
  intro a ha
  rcases List.mem_cons.1 ha with rfl | ha
  ·exact hx1 true x (h x List.mem_cons_self)
  ·obtain ⟨y, hy, rfl⟩ := List.mem_map.1 ha
   exact hx1 false y (h y (List.mem_cons_of_mem _ hy))
theorem w_isWi (f : Bool) (x : Bpt) : (x.w f).isWi = x.isWi := by
 cases x with
 | le c => exact eAt_isWi f c
 | wi c => rfl
theorem ptW_wi (l : List Bpt) : (ptW l).any At.isWi = l.any Bpt.isWi := by
 cases l with
 | nil => rfl
 | cons x t =>
  show ((x.w true).isWi || (t.map (Bpt.w false)).any At.isWi) = _
  rw [w_isWi, List.any_map, List.any_cons]
  congr 1
  congr 1
  funext y
  exact w_isWi false y
theorem w_pat (f : Bool) (x : Bpt) : (x.w f).rn.pat = x.c.b := by
 cases x with
 | wi c => rfl
 | le c =>
  show (eAt f c).rn.pat = (if c = 42 ∨ c = 63 ∨ c = 92 then At.es c else At.pl c).b
  unfold eAt
  by_cases hc : c = 42 ∨ c = 63 ∨ c = 92
  ·have h34 := (cls34 c).2 hc
   have h0 : cls c ≠ 0 := by rcases h34 with h | h <;> (rw [h]; decide)
   rw [if_pos (.inl h0), if_pos hc]
   show pe c = [92, c]
   unfold pe; rw [if_pos h34]
  ·have h34 : ¬ (cls c = 3 ∨ cls c = 4) := fun h => hc ((cls34 c).1 h)
   rw [if_neg hc]
   split
   ·show pe c = [c]
    unfold pe; rw [if_neg h34]
   ·rfl
theorem ptW_pat (l : List Bpt) : (atRn (ptW l)).pat = ptC l := by
 have h : ∀ t : List Bpt, (atRn (t.map (Bpt.w false))).pat = ptC t := by
  intro t
  induction t with
  | nil => rfl
  | cons y t ih =>
   show (y.w false).rn.pat ++ (atRn (t.map (Bpt.w false))).pat = y.c.b ++ ptC t
   rw [ih, w_pat]
 cases l with
 | nil => rfl
 | cons x t =>
  show (x.w true).rn.pat ++ (atRn (t.map (Bpt.w false))).pat = x.c.b ++ ptC t
  rw [h, w_pat]
theorem pattern_back (l : List Bpt) (h : ∀ x ∈ l, x.ok) (hw : l.any Bpt.isWi = true) :
  scanL (patternL (ptP l)) = ([⟨2, ptC l, 0, 0, (patternL (ptP l)).length⟩, ⟨0, [], 0, (patternL (ptP l)).length, (patternL (ptP l)).length⟩], none) := by
 rw [pattern_p l h, if_pos hw]
 have := scan_pat (ptW_ok l h) (fun a ha => by
  cases l with
  | nil => cases ha
  | cons x t =>
   cases ha
   cases x with
   | le c => exact eAt_run1 c
   | wi c => trivial) ((ptW_wi l).trans hw)
 rw [ptW_pat] at this
 exact this
end Go.Proofs.YthcldpminmhgkaaDoor
end
