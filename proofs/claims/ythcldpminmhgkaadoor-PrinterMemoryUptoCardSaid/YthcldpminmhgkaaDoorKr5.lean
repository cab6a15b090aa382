/- Merged for a claim by shake.py: Lsg Lpl Bk -/
import Derived.Test.YthcldpminmhgkaaDoorKrA
import Derived.Test.YthcldpminmhgkaaDoorKr1
import Derived.Test.YthcldpminmhgkaaDoorKr4
set_option maxRecDepth 100000
set_option maxHeartbeats 1000000
set_option linter.unusedVariables false
section
namespace Go.Proofs.YthcldpminmhgkaaDoor
open Go.RowKit
structure Sg where
 c : UInt8
 letter : Bool
 place : Nat
 size : Nat
def sgShape : Shape Sg := { tS := 130, tE := 133, size := 4, bytes := 24, enc := fun x => [.int .u8 x.c.toNat, .bool x.letter, .int .i64 x.place, .int .i64 x.size], zero := .agg #[.int .u8 0, .bool false, .int .i64 0, .int .i64 0] }
theorem sgOk : sgShape.Ok where
 under := Tryd.underlying130
 info := by kernel_rfl
 zs := rfl
 pos := by decide
 len := fun _ => rfl
 one := fun x u hu => by
  simp only [sgShape, List.mem_cons, List.not_mem_nil, or_false] at hu
  rcases hu with rfl | rfl | rfl | rfl <;> rfl
 small := by decide
def signsFrom : List UInt8 → Nat → List Sg
 | [], _ => []
 | [c], i => [⟨c, false, i, 1⟩]
 | c :: d :: t, i => if c = 92 then ⟨d, true, i, 2⟩ :: signsFrom t (i + 2) else ⟨c, false, i, 1⟩ :: signsFrom (d :: t) (i + 1)
def signs (l : List UInt8) : List Sg := signsFrom l 0
theorem drop_cons {l : List UInt8} {k : Nat} (h : k < l.length) : l.drop k = l[k] :: l.drop (k + 1) := List.drop_eq_getElem_cons h
theorem signs_letter {l : List UInt8} {k : Nat} (h : k + 1 < l.length) (h92 : l[k] = 92) : signsFrom (l.drop k) k = ⟨l[k + 1], true, k, 2⟩ :: signsFrom (l.drop (k + 2)) (k + 2) := by
 rw [drop_cons (by omega : k < l.length), drop_cons h, signsFrom, if_pos h92]
theorem signs_plain {l : List UInt8} {k : Nat} (h : k < l.length) (h92 : l[k] ≠ 92 ∨ l.length ≤ k + 1) : signsFrom (l.drop k) k = ⟨l[k], false, k, 1⟩ :: signsFrom (l.drop (k + 1)) (k + 1) := by
 by_cases h1 : k + 1 < l.length
 ·have h2 : l[k] ≠ 92 := by rcases h92 with h | h; exact h; omega
  rw [drop_cons h, drop_cons h1, signsFrom, if_neg h2]
 ·have e : l.drop (k + 1) = [] := List.drop_eq_nil_of_le (by omega)
  rw [drop_cons h, e]
  simp [signsFrom]
theorem signs_none {l : List UInt8} {k : Nat} (h : l.length ≤ k) : signsFrom (l.drop k) k = [] := by rw [List.drop_eq_nil_of_le h]; simp [signsFrom]
def SRel (s : ByteArray) (w : World) (v i : Value) (wr : World) : Prop :=
 ∃ (k : Nat) (pre : List Sg), k ≤ s.size ∧ pre.length ≤ k ∧ i = .int .i64 k ∧ OwnL sgShape wr w.heap.size v pre ∧ signs s.data.toList = pre ++ signsFrom (s.data.toList.drop k) k ∧ Below w.heap.size w wr
def RetSg (w : World) (l : List Sg) (e : Ending) (w' : World) : Prop := ∃ v, e = .returned v ∧ OwnL sgShape w' w.heap.size v l ∧ Below w.heap.size w w'
theorem signs_any (s : ByteArray) (w : World) (hs : s.size ≤ 900000000000) :
  Calls Tryd.prog 115 #[.string s] w (RetSg w (signs s.data.toList)) := by
 go_enter Tryd.func115, Tryd.ntmps115
 go_wp2
 go_loopw [3, 4] (fun v i wr => SRel s w v i wr) (fun _ i _ => s.size - (intOf i).toNat)
 case atStart => exact ⟨0, [], by omega, by simp, rfl, OwnL.lit0 sgShape w (Nat.le_refl _), by simp [signs], (Below.refl _ _).alloc (Nat.le_refl _) _⟩
 case round =>
  obtain ⟨k, pre, hk, hpl, rfl, ho, hsg, hb⟩ := hrel
  have HO := LH ho; clear ho
  have HG := LH hsg; clear hsg
  have hBr := hb.size
  by_cases hlt : k < s.size
  ·by_cases h92 : s[k] = 92
   ·have hb92 : ((s[k].toNat : Int) == 92) = true := by rw [h92]; rfl
    have H92 := LH h92; clear h92
    by_cases hlt2 : k + 1 < s.size
    ·go_wp2_with (at_builtin; refine OwnL.append sgOk HO.out ⟨s[k + 1], true, k, 2⟩ rfl _ _ rfl rfl rfl _ rfl hBr ?_ ?_)
     ·omega
     ·intro v' w' h2 h3
      have H2 := LH h2; clear h2
      go_wp2
      go_roundw
      case rel =>
       refine ⟨k + 2, _, by omega, ?_, by go_num, H2.out, ?_, hb.trans h3⟩
       ·simp; omega
       ·rw [HG.out, signs_letter (by rw [← ba_size]; exact hlt2) H92.out, List.append_assoc]; rfl
      case measure => simp [intOf]; omega
    ·go_wp2_with (at_builtin; refine OwnL.append sgOk HO.out ⟨s[k], false, k, 1⟩ rfl _ _ rfl rfl rfl _ rfl hBr ?_ ?_)
     ·omega
     ·intro v' w' h2 h3
      have H2 := LH h2; clear h2
      go_wp2
      go_roundw
      case rel =>
       refine ⟨k + 1, _, by omega, ?_, by go_num, H2.out, ?_, hb.trans h3⟩
       ·simp; omega
       ·rw [HG.out, signs_plain (by rw [← ba_size]; exact hlt) (.inr (by rw [← ba_size]; omega)), List.append_assoc]; rfl
      case measure => simp [intOf]; omega
   ·have hb92 : ((s[k].toNat : Int) == 92) = false := by rw [beq_eq_false_iff_ne]; intro h; exact h92 (byte_eq (d := 92) h)
    have H92 := LH h92; clear h92
    go_wp2_with (at_builtin; refine OwnL.append sgOk HO.out ⟨s[k], false, k, 1⟩ rfl _ _ rfl rfl rfl _ rfl hBr ?_ ?_)
    ·omega
    ·intro v' w' h2 h3
     have H2 := LH h2; clear h2
     go_wp2
     go_roundw
     case rel =>
      refine ⟨k + 1, _, by omega, ?_, by go_num, H2.out, ?_, hb.trans h3⟩
      ·simp; omega
      ·rw [HG.out, signs_plain (by rw [← ba_size]; exact hlt) (.inl H92.out), List.append_assoc]; rfl
     case measure => simp [intOf]; omega
  ·go_wp2
   go_ret
   refine ⟨_, rfl, ?_, hb⟩
   rw [HG.out, signs_none (by rw [← ba_size]; omega), List.append_nil]
   exact HO.out
def badSg (x : Sg) : Bool := !x.letter && x.c == 92
def wildSg (x : Sg) : Bool := !x.letter && decide (cls x.c = 3)
def canSg (x : Sg) : List UInt8 := if x.letter = true ∧ (cls x.c = 3 ∨ x.c = 92) then [92, x.c] else [x.c]
def canOf (l : List Sg) : List UInt8 := l.flatMap canSg
def patSg (first : Bool) (x : Sg) : List UInt8 := if wildSg x then [x.c] else esc first x.c
def patTo (l : List Sg) : Nat → List UInt8
 | 0 => []
 | k + 1 => patTo l k ++ (match l[k]? with | some x => patSg (k == 0) x | none => [])
def patternL (l : List UInt8) : List UInt8 := if (signs l).any badSg = true then [] else if (signs l).any wildSg = true then patTo (signs l) (signs l).length else []
theorem take_snoc' {α : Type} (l : List α) (k : Nat) (h : k < l.length) : l.take (k + 1) = l.take k ++ [l[k]] := List.take_succ_eq_append_getElem h
theorem canSg_length (x : Sg) : (canSg x).length ≤ 2 := by unfold canSg; split <;> simp
theorem canOf_length (l : List Sg) : (canOf l).length ≤ 2 * l.length := by
 induction l with
 | nil => simp [canOf]
 | cons x l ih =>
  have e : canOf (x :: l) = canSg x ++ canOf l := by simp [canOf]
  have := canSg_length x
  rw [e, List.length_append, List.length_cons]; omega
theorem canOf_snoc (l : List Sg) (x : Sg) : canOf (l ++ [x]) = canOf l ++ canSg x := by simp [canOf]
theorem any_bad {l : List Sg} {k : Nat} (h : k < l.length) (hb : badSg l[k] = true) : l.any badSg = true := List.any_eq_true.2 ⟨l[k], List.getElem_mem h, hb⟩
theorem signs_length (l : List UInt8) : (signs l).length ≤ l.length := by
 unfold signs
 suffices h : ∀ n i, n = l.length → ∀ l' : List UInt8, l'.length ≤ n → (signsFrom l' i).length ≤ l'.length by exact h l.length 0 rfl l (Nat.le_refl _)
 intro n
 induction n using Nat.strongRecOn generalizing l with
 | _ n ih =>
  intro i hn l' hl'
  match l' with
  | [] => simp [signsFrom]
  | [c] => simp [signsFrom]
  | c :: d :: t =>
   unfold signsFrom
   simp only [List.length_cons] at hl'
   split
   ·have := ih (n - 1) (by omega) (l := List.replicate (n - 1) 0) (i + 2) (by simp) t (by omega)
    simp only [List.length_cons]; omega
   ·have := ih (n - 1) (by omega) (l := List.replicate (n - 1) 0) (i + 1) (by simp) (d :: t) (by simp only [List.length_cons]; omega)
    simp only [List.length_cons] at this ⊢; omega
theorem patTo_succ (l : List Sg) (k : Nat) (h : k < l.length) : patTo l (k + 1) = patTo l k ++ patSg (k == 0) l[k] := by
 rw [patTo, List.getElem?_eq_getElem h]
end Go.Proofs.YthcldpminmhgkaaDoor
end
section
namespace Go.Proofs.YthcldpminmhgkaaDoor
inductive At where
 | pl (c : UInt8)
 | es (c : UInt8)
 | wi (c : UInt8)
def At.b : At → List UInt8
 | .pl c => [c]
 | .es c => [92, c]
 | .wi c => [c]
def At.ok : At → Prop
 | .pl c => cls c = 0
 | .es _ => True
 | .wi c => cls c = 3
def At.rn : At → Rn
 | .pl c => ⟨[c], [c], 0, 1⟩
 | .es c => ⟨[c], pe c, 0, 2⟩
 | .wi c => ⟨[], [c], 1, 1⟩
def At.isWi : At → Bool
 | .wi _ => true
 | _ => false
def atB (l : List At) : List UInt8 := l.flatMap At.b
def atRn (l : List At) : Rn := l.foldr (fun a r => Rn.add a.rn r) ⟨[], [], 0, 0⟩
theorem atB_cons (a : At) (l : List At) : atB (a :: l) = a.b ++ atB l := rfl
theorem atRn_cons (a : At) (l : List At) : atRn (a :: l) = Rn.add a.rn (atRn l) := rfl
theorem cls92 : cls 92 = 4 := by decide
theorem runL_at_pl (c : UInt8) (t : List UInt8) (h : cls c = 0) : runL (c :: t) = (runL t).map (Rn.add ⟨[c], [c], 0, 1⟩) := by
 cases t <;> simp [runL, h, Rn.add]
theorem runL_at_wi (c : UInt8) (t : List UInt8) (h : cls c = 3) : runL (c :: t) = (runL t).map (Rn.add ⟨[], [c], 1, 1⟩) := by
 cases t <;> simp [runL, h, Rn.add]
theorem runL_at_es (c : UInt8) (t : List UInt8) : runL (92 :: c :: t) = (runL t).map (Rn.add ⟨[c], pe c, 0, 2⟩) := by
 simp [runL, cls92]
theorem runL_at : ∀ (l : List At), (∀ a ∈ l, a.ok) → runL (atB l) = some (atRn l)
 | [], _ => rfl
 | a :: l, h => by
  have ih := runL_at l (fun x hx => h x (List.mem_cons_of_mem _ hx))
  have ha := h a List.mem_cons_self
  rw [atB_cons, atRn_cons]
  cases a with
  | pl c => rw [show At.b (.pl c) ++ atB l = c :: atB l from rfl, runL_at_pl c _ ha, ih]; rfl
  | es c => rw [show At.b (.es c) ++ atB l = 92 :: c :: atB l from rfl, runL_at_es, ih]; rfl
  | wi c => rw [show At.b (.wi c) ++ atB l = c :: atB l from rfl, runL_at_wi c _ ha, ih]; rfl
theorem atRn_len (l : List At) : (atRn l).len = (atB l).length := by
 induction l with
 | nil => rfl
 | cons a l ih =>
  rw [atB_cons, atRn_cons, List.length_append, ← ih]
  cases a <;> rfl
def At.run1 : At → Prop
 | .pl c => c ≠ 43 ∧ c ≠ 45
 | _ => True
theorem pl_run {c : UInt8} (h : cls c = 0) (h1 : c ≠ 43) (h2 : c ≠ 45) : singleK c = 0 ∧ c ≠ 34 ∧ c ≠ 94 ∧ c ≠ 126 ∧ c ≠ 64 := by
 have := all_bytes' (p := fun c => decide (cls c = 0 → c ≠ 43 → c ≠ 45 → singleK c = 0 ∧ c ≠ 34 ∧ c ≠ 94 ∧ c ≠ 126 ∧ c ≠ 64)) (by decide +kernel) c
 exact of_decide_eq_true this h h1 h2
theorem wi_run {c : UInt8} (h : cls c = 3) : singleK c = 0 ∧ c ≠ 34 ∧ c ≠ 94 ∧ c ≠ 126 ∧ c ≠ 64 := by
 have := all_bytes' (p := fun c => decide (cls c = 3 → singleK c = 0 ∧ c ≠ 34 ∧ c ≠ 94 ∧ c ≠ 126 ∧ c ≠ 64)) (by decide +kernel) c
 exact of_decide_eq_true this h
theorem tokOf_run {c : UInt8} (t : List UInt8) (h : singleK c = 0) (h1 : c ≠ 34) (h2 : c ≠ 94) (h3 : c ≠ 126) (h4 : c ≠ 64) : tokOf (c :: t) = runTk (c :: t) := by
 rw [tokOf, if_neg (fun h' => h' h), if_neg h1, if_neg h2, if_neg h3, if_neg h4]
theorem tokOf_at {l : List At} (h : ∀ a ∈ l, a.ok) (h0 : l ≠ []) (h1 : ∀ a, l.head? = some a → a.run1) : tokOf (atB l) = runTk (atB l) := by
 cases l with
 | nil => exact absurd rfl h0
 | cons a l =>
  have ha := h a List.mem_cons_self
  have hr := h1 a rfl
  cases a with
  | pl c =>
   obtain ⟨a1, a2, a3, a4, a5⟩ := pl_run ha hr.1 hr.2
   exact tokOf_run _ a1 a2 a3 a4 a5
  | es c => exact tokOf_run _ (by decide) (by decide) (by decide) (by decide) (by decide)
  | wi c =>
   obtain ⟨a1, a2, a3, a4, a5⟩ := wi_run ha
   exact tokOf_run _ a1 a2 a3 a4 a5
theorem head_at {l : List At} (h : ∀ a ∈ l, a.ok) {c : UInt8} {t : List UInt8} (he : atB l = c :: t) : cls c ≠ 1 := by
 cases l with
 | nil => cases he
 | cons a l =>
  have ha := h a List.mem_cons_self
  rw [atB_cons] at he
  cases a with
  | pl d => cases he; rw [show cls c = 0 from ha]; decide
  | es d => cases he; decide
  | wi d => cases he; rw [show cls c = 3 from ha]; decide
theorem scan_one {l : List UInt8} {k : Tk} (h : tokOf l = some k) (hl : k.len = l.length) (hc : ∀ c t, l = c :: t → cls c ≠ 1) : scanL l = ([⟨k.kind, k.text, k.n, 0, l.length⟩, ⟨0, [], 0, l.length, l.length⟩], none) := by
 cases l with
 | nil => cases h
 | cons c t =>
  unfold scanL
  rw [scanF, if_neg (hc c t rfl), h]
  simp only []
  rw [hl, List.drop_length, List.length_cons, scanF]
  simp [ahead, Tk.lx, hl]
theorem atRn_wilds (l : List At) : (atRn l).wilds = (l.filter At.isWi).length := by
 induction l with
 | nil => rfl
 | cons a l ih =>
  rw [atRn_cons, List.filter_cons]
  cases a <;> simp [Rn.add, At.rn, At.isWi, ih]; omega
theorem scan_word {l : List At} (h : ∀ a ∈ l, a.ok) (h0 : l ≠ []) (h1 : ∀ a, l.head? = some a → a.run1) (hw : l.any At.isWi = false) (hk : kwd (atB l) = 1) :
  scanL (atB l) = ([⟨1, (atRn l).text, 0, 0, (atB l).length⟩, ⟨0, [], 0, (atB l).length, (atB l).length⟩], none) := by
 have hwp : ¬ 0 < (atRn l).wilds := by
  rw [atRn_wilds]
  rw [List.any_eq_false] at hw
  have : l.filter At.isWi = [] := List.filter_eq_nil_iff.2 hw
  rw [this]; simp
 have ht : tokOf (atB l) = some ⟨1, (atRn l).text, 0, (atRn l).len⟩ := by
  rw [tokOf_at h h0 h1]
  unfold runTk
  rw [runL_at l h, Option.map_some, if_neg hwp, atRn_len, List.take_length, hk, if_pos rfl]
 exact scan_one ht (atRn_len l) (fun c t he => head_at h he)
def eAt (first : Bool) (c : UInt8) : At := if cls c ≠ 0 ∨ (first = true ∧ (c = 43 ∨ c = 45)) then .es c else .pl c
theorem eAt_b (f : Bool) (c : UInt8) : (eAt f c).b = esc f c := by unfold eAt esc; split <;> rfl
theorem eAt_ok (f : Bool) (c : UInt8) : (eAt f c).ok := by
 unfold eAt
 split
 ·trivial
 ·rename_i h
  show cls c = 0
  exact Classical.byContradiction fun h' => h (.inl h')
theorem eAt_run1 (c : UInt8) : (eAt true c).run1 := by
 unfold eAt
 split
 ·trivial
 ·rename_i h
  exact ⟨fun e => h (.inr ⟨rfl, .inl e⟩), fun e => h (.inr ⟨rfl, .inr e⟩)⟩
theorem eAt_isWi (f : Bool) (c : UInt8) : (eAt f c).isWi = false := by unfold eAt; split <;> rfl
theorem eAt_text (f : Bool) (c : UInt8) : (eAt f c).rn.text = [c] := by unfold eAt; split <;> rfl
def lAt (first : Bool) : List UInt8 → List At
 | [] => []
 | c :: t => eAt first c :: t.map (eAt false)
theorem lettersTo_cons (f : Bool) (c : UInt8) (t : List UInt8) (k : Nat) (hk : k ≤ t.length) : lettersTo f (c :: t) (k + 1) = esc f c ++ (t.take k).flatMap (esc false) := by
 induction k with
 | zero => simp [lettersTo]
 | succ k ih =>
  rw [lettersTo, ih (by omega), List.append_assoc]
  congr 1
  have e : (f && (k + 1 == 0)) = false := by simp
  have hk' : k < t.length := by omega
  rw [e, List.take_succ_eq_append_getElem hk', List.flatMap_append]
  simp [hk']
theorem lettersL_at (f : Bool) (l : List UInt8) : lettersL f l = atB (lAt f l) := by
 unfold lettersL
 cases l with
 | nil => rfl
 | cons c t =>
  rw [List.length_cons, lettersTo_cons f c t t.length (Nat.le_refl _), List.take_length]
  unfold lAt
  rw [atB_cons, eAt_b]
  congr 1
  unfold atB
  rw [List.flatMap_map]
  congr 1
  funext x
  exact (eAt_b false x).symm
theorem lAt_ok (f : Bool) (l : List UInt8) : ∀ a ∈ lAt f l, a.ok := by
 cases l with
 | nil => intro a h; cases h
 | cons c t =>
  intro a h
  unfold lAt at h
  rcases List.mem_cons.1 h with rfl | h
  ·exact eAt_ok f c
  ·obtain ⟨x, _, rfl⟩ := List.mem_map.1 h
   exact eAt_ok false x
theorem lAt_wi (f : Bool) (l : List UInt8) : (lAt f l).any At.isWi = false := by
 rw [List.any_eq_false]
 cases l with
 | nil => intro a h; cases h
 | cons c t =>
  intro a h
  unfold lAt at h
  rcases List.mem_cons.1 h with rfl | h
  ·rw [eAt_isWi]; decide
  ·obtain ⟨x, _, rfl⟩ := List.mem_map.1 h
   rw [eAt_isWi]; decide
theorem atRn_map_text (t : List UInt8) : (atRn (t.map (eAt false))).text = t := by
 induction t with
 | nil => rfl
 | cons c t ih =>
  rw [List.map_cons, atRn_cons]
  show (eAt false c).rn.text ++ (atRn (t.map (eAt false))).text = c :: t
  rw [ih, eAt_text]; rfl
theorem lAt_text (f : Bool) (l : List UInt8) : (atRn (lAt f l)).text = l := by
 cases l with
 | nil => rfl
 | cons c t =>
  unfold lAt
  rw [atRn_cons]
  show (eAt f c).rn.text ++ (atRn (t.map (eAt false))).text = c :: t
  rw [atRn_map_text, eAt_text]; rfl
theorem at_plain : ∀ (l : List At), (∀ a ∈ l, a.ok) → l.any At.isWi = false → (92 : UInt8) ∉ atB l → (atRn l).text = atB l
 | [], _, _, _ => rfl
 | a :: l, h, hw, hn => by
  rw [List.any_cons, Bool.or_eq_false_iff] at hw
  rw [atB_cons] at hn
  have ih := at_plain l (fun x hx => h x (List.mem_cons_of_mem _ hx)) hw.2 (fun hm => hn (List.mem_append.2 (.inr hm)))
  rw [atRn_cons, atB_cons]
  show a.rn.text ++ (atRn l).text = _
  rw [ih]
  congr 1
  cases a with
  | pl c => rfl
  | es c => exact absurd (List.mem_append.2 (.inl List.mem_cons_self)) hn
  | wi c => cases hw.1
theorem kwd_1or (l : List UInt8) : kwd l = 1 ∨ l = [65, 78, 68] ∨ l = [79, 82] ∨ l = [78, 79, 84] ∨ l = [84, 79] := by
 unfold kwd
 split
 ·exact .inr (.inl ‹_›)
 ·split
  ·exact .inr (.inr (.inl ‹_›))
  ·split
   ·exact .inr (.inr (.inr (.inl ‹_›)))
   ·split
    ·exact .inr (.inr (.inr (.inr ‹_›)))
    ·exact .inl rfl
theorem word_back {s : List UInt8} (h : s ≠ []) : scanL (wordL s) = ([⟨1, s, 0, 0, (wordL s).length⟩, ⟨0, [], 0, (wordL s).length, (wordL s).length⟩], none) := by
 unfold wordL
 by_cases hk : kwd s ≠ 1
 ·rw [if_pos hk]
  have hs : s = [65, 78, 68] ∨ s = [79, 82] ∨ s = [78, 79, 84] ∨ s = [84, 79] := by
   rcases kwd_1or s with h | h
   ·exact absurd h hk
   ·exact h
  rcases hs with rfl | rfl | rfl | rfl <;> rfl
 ·rw [if_neg hk]
  have hk1 : kwd s = 1 := Classical.byContradiction fun h => hk h
  rw [lettersL_at]
  have h0 : lAt true s ≠ [] := by cases s with | nil => exact absurd rfl h | cons c t => simp [lAt]
  have h1 : ∀ a, (lAt true s).head? = some a → a.run1 := by
   cases s with
   | nil => exact absurd rfl h
   | cons c t => intro a ha; cases ha; exact eAt_run1 c
  have hkw : kwd (atB (lAt true s)) = 1 := by
   rcases kwd_1or (atB (lAt true s)) with h | h
   ·exact h
   ·have hn : (92 : UInt8) ∉ atB (lAt true s) := by rcases h with h | h | h | h <;> (rw [h]; decide)
    have := at_plain _ (lAt_ok true s) (lAt_wi true s) hn
    rw [lAt_text] at this
    rw [← this]; exact hk1
  have := scan_word (lAt_ok true s) h0 h1 (lAt_wi true s) hkw
  rw [lAt_text] at this
  exact this
def At.sg (a : At) (i : Nat) : Sg := match a with
 | .pl c => ⟨c, false, i, 1⟩
 | .es c => ⟨c, true, i, 2⟩
 | .wi c => ⟨c, false, i, 1⟩
theorem signsFrom_ne {c : UInt8} (t : List UInt8) (i : Nat) (h : c ≠ 92) : signsFrom (c :: t) i = ⟨c, false, i, 1⟩ :: signsFrom t (i + 1) := by
 cases t with
 | nil => rfl
 | cons d t => rw [signsFrom, if_neg h]
inductive Bpt where
 | le (c : UInt8)
 | wi (c : UInt8)
def Bpt.p : Bpt → At
 | .le c => .es c
 | .wi c => .wi c
def Bpt.c : Bpt → At
 | .le c => if c = 42 ∨ c = 63 ∨ c = 92 then .es c else .pl c
 | .wi c => .wi c
def Bpt.ok : Bpt → Prop
 | .le _ => True
 | .wi c => cls c = 3
def Bpt.w (first : Bool) : Bpt → At
 | .le c => eAt first c
 | .wi c => .wi c
def Bpt.isWi : Bpt → Bool
 | .wi _ => true
 | _ => false
theorem cls_4 (c : UInt8) : cls c = 4 ↔ c = 92 := by
 have := all_bytes' (p := fun c => decide (cls c = 4 ↔ c = 92)) (by decide +kernel) c
 exact of_decide_eq_true this
end Go.Proofs.YthcldpminmhgkaaDoor
end
