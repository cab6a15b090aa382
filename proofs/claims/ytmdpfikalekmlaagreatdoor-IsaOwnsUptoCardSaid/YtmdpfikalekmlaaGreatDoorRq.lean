/- Layer 20, plainly: what stands in a line is read. -/
import Derived.Test.YtmdpfikalekmlaaGreatDoorTj
namespace Go.Proofs.YtmdpfikalekmlaaGreatDoor
open Go.RowKit
set_option maxRecDepth 100000
set_option linter.unusedSimpArgs false
set_option linter.unusedVariables false

def isDig (c : UInt8) : Bool := decide (48 ≤ c.toNat) && decide (c.toNat ≤ 57)
/-- A number as it is written, without noughts ahead. -/
def wholeOk (s : List UInt8) : Bool := decide (s ≠ []) && !(decide (1 < s.length) && decide (s.head? = some 48)) && s.all isDig
def wholeL (top : Nat) (s : List UInt8) : Option Nat := if wholeOk s = true then (if undgt s < top then some (undgt s) else none) else none
theorem undgt_snoc (l : List UInt8) (c : UInt8) : undgt (l ++ [c]) = 10 * undgt l + (c.toNat - 48) := by simp [undgt, List.foldl_append]
theorem undgt_pos {s : List UInt8} (hd : s.all isDig = true) (h : s ≠ []) (h0 : s.head? ≠ some 48) : 0 < undgt s := by
  have key : ∀ (l : List UInt8) (v : Nat), 0 < v → 0 < l.foldl (fun v (c : UInt8) => 10 * v + (c.toNat - 48)) v := by
    intro l
    induction l with
    | nil => intro v hv; exact hv
    | cons c l ih => intro v hv; exact ih (10 * v + (c.toNat - 48)) (by omega)
  cases s with
  | nil => exact absurd rfl h
  | cons c r =>
    rw [List.all_cons, Bool.and_eq_true] at hd
    have hc := hd.1
    unfold isDig at hc
    simp only [Bool.and_eq_true, decide_eq_true_eq] at hc
    have : c.toNat ≠ 48 := fun e => h0 (by simp; exact UInt8.toNat_inj.1 e)
    unfold undgt
    rw [List.foldl_cons]
    exact key r _ (by omega)
theorem snocR_ind {P : List UInt8 → Prop} (h0 : P []) (h1 : ∀ l c, P l → P (l ++ [c])) (l : List UInt8) : P l := by
  rw [← List.reverse_reverse l]
  generalize l.reverse = r
  induction r with
  | nil => exact h0
  | cons c r ih => rw [List.reverse_cons]; exact h1 _ _ ih
theorem dgt_undgt (s : List UInt8) (h : wholeOk s = true) : dgt (undgt s) = s := by
  revert h
  refine snocR_ind (P := fun s => wholeOk s = true → dgt (undgt s) = s) ?_ ?_ s
  · intro h; simp [wholeOk] at h
  · intro l c ih h
    unfold wholeOk at h
    simp only [Bool.and_eq_true, Bool.not_eq_true', decide_eq_true_eq, List.all_append, List.all_cons, List.all_nil, Bool.and_true, Bool.and_eq_false_iff, decide_eq_false_iff_not] at h
    obtain ⟨⟨h1, h2⟩, h3, h4⟩ := h
    have hc := h4
    unfold isDig at hc
    simp only [Bool.and_eq_true, decide_eq_true_eq] at hc
    have hcc : UInt8.ofNat (48 + (c.toNat - 48)) = c := by
      apply UInt8.toNat_inj.1
      rw [UInt8.toNat_ofNat']
      exact (Nat.mod_eq_of_lt (by omega)).trans (by omega)
    rw [undgt_snoc]
    cases hl : l with
    | nil =>
      rw [show undgt [] = 0 from rfl, dgt_small (by omega), Nat.mul_zero, Nat.zero_add, hcc]; rfl
    | cons x r =>
      have hne : l ≠ [] := by rw [hl]; simp
      have hhead : (l ++ [c]).head? = l.head? := by rw [hl]; rfl
      have h0 : l.head? ≠ some 48 := by
        rcases h2 with h2 | h2
        · rw [List.length_append, hl] at h2; simp at h2
        · rw [hhead] at h2; exact h2
      have hp := undgt_pos h3 hne h0
      have hw : wholeOk l = true := by
        unfold wholeOk
        simp only [Bool.and_eq_true, Bool.not_eq_true', decide_eq_true_eq, Bool.and_eq_false_iff, decide_eq_false_iff_not]
        exact ⟨⟨hne, Or.inr h0⟩, h3⟩
      rw [← hl, dgt_big (by omega)]
      have e1 : (10 * undgt l + (c.toNat - 48)) / 10 = undgt l := by omega
      have e2 : (10 * undgt l + (c.toNat - 48)) % 10 = c.toNat - 48 := by omega
      rw [e1, e2, ih hw, hcc]
theorem dgt_ne (n : Nat) : dgt n ≠ [] := by
  by_cases h : n < 10
  · rw [dgt_small h]; simp
  · rw [dgt_big h]; simp
theorem dgt_head (n : Nat) (h : 0 < n) : (dgt n).head? ≠ some 48 := by
  induction n using Nat.strongRecOn with
  | ind n ih =>
    by_cases h10 : n < 10
    · rw [dgt_small h10]
      simp only [List.head?_cons, ne_eq, Option.some.injEq]
      intro e
      have := dig_nat h10
      rw [e] at this
      have h48 : (48 : UInt8).toNat = 48 := rfl
      omega
    · rw [dgt_big h10]
      have := ih (n / 10) (by omega) (by omega)
      cases hd : dgt (n / 10) with
      | nil => exact absurd hd (dgt_ne _)
      | cons x r => rw [hd] at this; exact this
theorem wholeOk_dgt (n : Nat) : wholeOk (dgt n) = true := by
  unfold wholeOk
  simp only [Bool.and_eq_true, Bool.not_eq_true', decide_eq_true_eq, Bool.and_eq_false_iff, decide_eq_false_iff_not]
  refine ⟨⟨dgt_ne n, ?_⟩, ?_⟩
  · rcases Nat.eq_zero_or_pos n with rfl | h
    · left; rw [dgt_small (by omega)]; simp
    · right; exact dgt_head n h
  · rw [List.all_eq_true]
    intro c hc
    have := dgt_mem n c hc
    unfold isDig; simp; omega
theorem wholeL_iff (top : Nat) (s : List UInt8) (v : Nat) : wholeL top s = some v ↔ s = dgt v ∧ v < top := by
  unfold wholeL
  constructor
  · intro h
    split at h
    · rename_i h1
      split at h
      · injection h with h
        subst h
        exact ⟨(dgt_undgt s h1).symm, by assumption⟩
      · cases h
    · cases h
  · rintro ⟨rfl, h⟩
    rw [if_pos (wholeOk_dgt v), undgt_dgt, if_pos h]
/-- Numbers, all of them good. -/
def intsL : List (List UInt8) → Option (List Int)
  | [] => some []
  | s :: r => match wholeL 9223372036854775808 s with
    | none => none
    | some v => (intsL r).map ((v : Int) :: ·)
theorem intsL_iff (ws : List (List UInt8)) (l : List Int) : intsL ws = some l ↔ ws = l.map numC ∧ ∀ x ∈ l, 0 ≤ x ∧ x < 9223372036854775808 := by
  induction ws generalizing l with
  | nil =>
    constructor
    · intro h; injection h with h; subst h; exact ⟨rfl, fun x hx => absurd hx List.not_mem_nil⟩
    · rintro ⟨h, _⟩
      cases l with
      | nil => rfl
      | cons _ _ => cases h
  | cons s r ih =>
    unfold intsL
    constructor
    · intro h
      split at h
      · cases h
      · rename_i v hv
        obtain ⟨rfl, hv2⟩ := (wholeL_iff _ _ _).1 hv
        obtain ⟨l', h1, rfl⟩ := Option.map_eq_some_iff.1 h
        obtain ⟨e1, e2⟩ := (ih l').1 h1
        refine ⟨by rw [List.map_cons, e1]; rfl, ?_⟩
        intro x hx
        rcases List.mem_cons.1 hx with rfl | hx
        · exact ⟨Int.natCast_nonneg v, Int.ofNat_lt.2 hv2⟩
        · exact e2 x hx
    · rintro ⟨h, hb⟩
      cases l with
      | nil => cases h
      | cons x l =>
        rw [List.map_cons] at h
        injection h with h1 h2
        have hx := hb x List.mem_cons_self
        have hv : wholeL 9223372036854775808 s = some x.toNat := (wholeL_iff _ _ _).2 ⟨h1, (Int.toNat_lt hx.1).2 hx.2⟩
        rw [hv]
        simp only []
        rw [(ih l).2 ⟨h2, fun y hy => hb y (List.mem_cons_of_mem _ hy)⟩]
        simp only [Option.map_some]
        congr 2
        omega
/-- A hex digit's value. -/
def hexV (c : UInt8) : Option Nat := if 48 ≤ c.toNat ∧ c.toNat ≤ 57 then some (c.toNat - 48) else if 97 ≤ c.toNat ∧ c.toNat ≤ 102 then some (c.toNat - 87) else none
theorem hexV_iff (c : UInt8) (n : Nat) : hexV c = some n ↔ n < 16 ∧ c = hexC n := by
  unfold hexV
  constructor
  · intro h
    have hc := c.toNat_lt
    split at h
    · rename_i h1
      injection h with h; subst h
      refine ⟨by omega, UInt8.toNat_inj.1 ?_⟩
      rw [hexC_cases _ (by omega), if_pos (by omega)]; omega
    · split at h
      · rename_i h1 h2
        injection h with h; subst h
        refine ⟨by omega, UInt8.toNat_inj.1 ?_⟩
        rw [hexC_cases _ (by omega), if_neg (by omega)]; omega
      · cases h
  · rintro ⟨hn, rfl⟩
    have := hexC_cases n hn
    split at this
    · rw [if_pos (by omega)]; congr 1; omega
    · rw [if_neg (by omega), if_pos (by omega)]; congr 1; omega
/-- What stands between quotes. -/
def unqF : List UInt8 → Option (List UInt8)
  | [] => some []
  | c :: r => if c = 92 then (match r with
      | h :: l :: r' => match hexV h, hexV l with
        | some a, some b => if plainC (UInt8.ofNat (16 * a + b)) = true then none else (unqF r').map (UInt8.ofNat (16 * a + b) :: ·)
        | _, _ => none
      | _ => none) else if plainC c = true then (unqF r).map (c :: ·) else none
theorem unqF_iff (s t : List UInt8) : unqF s = some t ↔ s = t.flatMap quoC := by
  constructor
  · intro h
    induction s using unqF.induct generalizing t with
    | case1 => simp [unqF] at h; subst h; rfl
    | case2 hh ll r' a b ha hb hp =>
      unfold unqF at h; simp only [if_true, ha, hb] at h; rw [if_pos hp] at h; cases h
    | case3 hh ll r' a b ha hb hp ih =>
      unfold unqF at h
      simp only [if_true, ha, hb, if_neg hp] at h
      obtain ⟨t', h1, rfl⟩ := Option.map_eq_some_iff.1 h
      rw [List.flatMap_cons, ← ih t' h1]
      obtain ⟨ha1, ha2⟩ := (hexV_iff _ _).1 ha
      obtain ⟨hb1, hb2⟩ := (hexV_iff _ _).1 hb
      have hn : (UInt8.ofNat (16 * a + b)).toNat = 16 * a + b := by rw [UInt8.toNat_ofNat']; exact Nat.mod_eq_of_lt (by omega)
      unfold quoC
      rw [if_neg hp, hn, show (16 * a + b) / 16 = a by omega, show (16 * a + b) % 16 = b by omega, ha2, hb2]
      rfl
    | case4 hh ll r' hno => 
      unfold unqF at h
      simp only [if_true] at h
      cases h
    | case5 r hno =>
      unfold unqF at h
      simp only [if_true] at h
      cases h
    | case6 c r h92 hp ih =>
      unfold unqF at h
      rw [if_neg h92, if_pos hp] at h
      obtain ⟨t', h1, rfl⟩ := Option.map_eq_some_iff.1 h
      rw [List.flatMap_cons, ← ih t' h1]
      unfold quoC; rw [if_pos hp]; rfl
    | case7 c r h92 hp =>
      unfold unqF at h
      rw [if_neg h92, if_neg hp] at h; cases h
  · rintro rfl
    induction t with
    | nil => rfl
    | cons c t ih =>
      rw [List.flatMap_cons]
      by_cases hp : plainC c = true
      · have e : quoC c = [c] := by unfold quoC; rw [if_pos hp]
        rw [e, List.cons_append, List.nil_append, unqF.eq_def]
        simp only []
        rw [if_neg (plainC_not92 hp), if_pos hp, ih]; rfl
      · have e : quoC c = [92, hexC (c.toNat / 16), hexC (c.toNat % 16)] := by unfold quoC; rw [if_neg hp]
        have hc := c.toNat_lt
        have e1 := (hexV_iff (hexC (c.toNat / 16)) (c.toNat / 16)).2 ⟨by omega, rfl⟩
        have e2 := (hexV_iff (hexC (c.toNat % 16)) (c.toNat % 16)).2 ⟨by omega, rfl⟩
        have e3 : UInt8.ofNat (16 * (c.toNat / 16) + c.toNat % 16) = c := by
          apply UInt8.toNat_inj.1
          rw [UInt8.toNat_ofNat', show 16 * (c.toNat / 16) + c.toNat % 16 = c.toNat by omega]
          exact Nat.mod_eq_of_lt hc
        rw [e, List.cons_append, List.cons_append, List.cons_append, List.nil_append, unqF.eq_def]
        simp only [if_true, e1, e2]
        rw [e3, if_neg hp, ih]; rfl
end Go.Proofs.YtmdpfikalekmlaaGreatDoor
/- Layer 20, plainly: lines and words; what each line says. -/
namespace Go.Proofs.YtmdpfikalekmlaaGreatDoor
open Go.RowKit
set_option maxRecDepth 100000
set_option linter.unusedSimpArgs false
set_option linter.unusedVariables false

/-- A text cut at every byte s. -/
def splitS (s : UInt8) : List UInt8 → List (List UInt8)
  | [] => [[]]
  | c :: r => if c = s then [] :: splitS s r else match splitS s r with
    | [] => [[c]]
    | x :: xs => (c :: x) :: xs
theorem splitS_ne (s : UInt8) (l : List UInt8) : splitS s l ≠ [] := by
  cases l with
  | nil => simp [splitS]
  | cons c r => unfold splitS; split <;> (try split) <;> simp
theorem unlS_splitS (s : UInt8) (l : List UInt8) : unlS s (splitS s l) = l ++ [s] := by
  induction l with
  | nil => rfl
  | cons c r ih =>
    unfold splitS
    split
    · rename_i h; subst h; rw [unlS_cons, ih]; rfl
    · cases h : splitS s r with
      | nil => exact absurd h (splitS_ne s r)
      | cons x xs =>
        rw [h, unlS_cons] at ih
        show unlS s ((c :: x) :: xs) = _
        rw [unlS_cons, List.cons_append, ih]; rfl
theorem splitS_mem {s : UInt8} {l : List UInt8} : ∀ x ∈ splitS s l, s ∉ x := by
  induction l with
  | nil => intro x hx; obtain rfl := List.mem_singleton.1 hx; simp
  | cons c r ih =>
    intro x hx
    unfold splitS at hx
    split at hx
    · rcases List.mem_cons.1 hx with rfl | hx
      · simp
      · exact ih x hx
    · rename_i hc
      cases h : splitS s r with
      | nil => exact absurd h (splitS_ne s r)
      | cons y ys =>
        rw [h] at hx ih
        rcases List.mem_cons.1 hx with rfl | hx
        · intro hm
          rcases List.mem_cons.1 hm with hm | hm
          · exact hc hm.symm
          · exact ih y List.mem_cons_self hm
        · exact ih x (List.mem_cons_of_mem _ hx)
/-- The pieces are the only ones. -/
theorem splitS_iff {s : UInt8} {l : List UInt8} {ws : List (List UInt8)} (hn : ∀ x ∈ ws, s ∉ x) : splitS s l = ws ↔ l ++ [s] = unlS s ws := by
  constructor
  · rintro rfl; exact (unlS_splitS s l).symm
  · intro h
    rw [← unlS_splitS s l] at h
    exact unlS_inj splitS_mem hn h
theorem split_line {w : List UInt8} (hw : ∀ c ∈ w, 33 ≤ c.toNat) (l : List Int) (s : List UInt8) : splitS 32 s = w :: l.map numC ↔ s = lineL w l := by
  have hn : ∀ x ∈ w :: l.map numC, (32 : UInt8) ∉ x := by
    intro x hx hm
    rcases List.mem_cons.1 hx with rfl | hx
    · have := hw 32 hm; exact absurd this (by decide)
    · obtain ⟨y, _, rfl⟩ := List.mem_map.1 hx
      exact numC_not (by decide) hm
  have e : unlS 32 (w :: l.map numC) = lineL w l ++ [32] := by
    rw [unlS_cons, ← flat_unlS 32 numC l]; unfold lineL; rw [List.append_assoc]
  rw [splitS_iff hn, e]
  exact ⟨fun h => List.append_cancel_right h, fun h => by rw [h]⟩
/-- Numbers behind a word. -/
def pNums (w : List UInt8) (s : List UInt8) : Option (List Int) := match splitS 32 s with
  | [] => none
  | w0 :: ws => if w0 = w then intsL ws else none
theorem pNums_iff {w : List UInt8} (hw : ∀ c ∈ w, 33 ≤ c.toNat) (s : List UInt8) (l : List Int) : pNums w s = some l ↔ s = lineL w l ∧ ∀ x ∈ l, 0 ≤ x ∧ x < 9223372036854775808 := by
  unfold pNums
  constructor
  · intro h
    cases hs : splitS 32 s with
    | nil => exact absurd hs (splitS_ne _ _)
    | cons w0 ws =>
      rw [hs] at h
      simp only [] at h
      split at h
      · rename_i hw0
        subst hw0
        obtain ⟨rfl, hb⟩ := (intsL_iff ws l).1 h
        exact ⟨(split_line hw l s).1 hs, hb⟩
      · cases h
  · rintro ⟨h, hb⟩
    rw [(split_line hw l s).2 h]
    simp only [if_true]
    exact (intsL_iff _ l).2 ⟨rfl, hb⟩
/-- A text cut at the first byte s: what stands ahead, what behind; nothing behind where there is none. -/
def cutS (s : UInt8) : List UInt8 → List UInt8 × List UInt8
  | [] => ([], [])
  | c :: r => if c = s then ([], r) else (c :: (cutS s r).1, (cutS s r).2)
theorem cutS_app {s : UInt8} : ∀ {a : List UInt8} (b : List UInt8), s ∉ a → cutS s (a ++ s :: b) = (a, b)
  | [], b, _ => by simp [cutS]
  | c :: a, b, h => by
    rw [List.cons_append, cutS, if_neg (fun e => h (by rw [e]; exact List.mem_cons_self)), cutS_app b (fun hm => h (List.mem_cons_of_mem _ hm))]
theorem cutS_some {s : UInt8} : ∀ {l : List UInt8}, (cutS s l).2 ≠ [] → l = (cutS s l).1 ++ s :: (cutS s l).2 ∧ s ∉ (cutS s l).1
  | [], h => absurd rfl h
  | c :: r, h => by
    unfold cutS at h ⊢
    split
    · rename_i hc; subst hc; exact ⟨rfl, by simp⟩
    · rename_i hc
      rw [if_neg hc] at h
      obtain ⟨h1, h2⟩ := cutS_some h
      refine ⟨by simp only [List.cons_append]; rw [← h1], fun hm => ?_⟩
      rcases List.mem_cons.1 hm with hm | hm
      · exact hc hm.symm
      · exact h2 hm
/-- A term out of its quotes. -/
def unqL (s : List UInt8) : Option (List UInt8) := match s with
  | 34 :: r => match r.reverse with
    | 34 :: m => unqF m.reverse
    | _ => none
  | _ => none
theorem unqL_iff (s t : List UInt8) : unqL s = some t ↔ s = quoL t := by
  unfold unqL quoL
  constructor
  · intro h
    split at h
    · rename_i r
      split at h
      · rename_i m hm
        have hr : r = m.reverse ++ [34] := by rw [← List.reverse_reverse r, hm]; simp
        rw [hr, (unqF_iff _ _).1 h]
      · cases h
    · cases h
  · rintro rfl
    have e : (t.flatMap quoC ++ [34]).reverse = 34 :: (t.flatMap quoC).reverse := by simp
    simp only [e, List.reverse_reverse]
    exact (unqF_iff _ _).2 rfl
/-- A cursor behind its word. -/
def pCurR (r : List UInt8) : Option Lf := match wholeL 9223372036854775808 (cutS 32 r).1, unqL (cutS 32 r).2 with
  | some f, some t => some ⟨(f : Int), t⟩
  | _, _ => none
theorem pCurR_iff (r : List UInt8) (c : Lf) : pCurR r = some c ↔ r = numC c.field ++ 32 :: quoL c.term ∧ 0 ≤ c.field ∧ c.field < 9223372036854775808 := by
  unfold pCurR
  constructor
  · intro h
    split at h
    · rename_i f t hf ht
      injection h with h
      subst h
      obtain ⟨e1, hb⟩ := (wholeL_iff _ _ _).1 hf
      have e2 := (unqL_iff _ _).1 ht
      have hne : (cutS 32 r).2 ≠ [] := by rw [e2]; simp [quoL]
      obtain ⟨h1, h2⟩ := cutS_some hne
      refine ⟨?_, Int.natCast_nonneg f, Int.ofNat_lt.2 hb⟩
      rw [h1, e1, e2]
      simp only [cutS_app _ (dgt_not (by decide) : (32 : UInt8) ∉ dgt f)]
      rfl
    · cases h
  · rintro ⟨rfl, h0, h1⟩
    rw [cutS_app _ (numC_not (by decide))]
    have e1 : wholeL 9223372036854775808 (numC c.field) = some c.field.toNat := (wholeL_iff _ _ c.field.toNat).2 ⟨rfl, (Int.toNat_lt h0).2 h1⟩
    simp only [e1, (unqL_iff _ c.term).2 rfl]
    obtain ⟨f, t⟩ := c
    simp only [] at h0
    simp only [Option.some.injEq, Lf.mk.injEq, and_true]
    omega
theorem curL_form (c : Lf) : curL c = [99, 117, 114, 115, 111, 114] ++ 32 :: (numC c.field ++ 32 :: quoL c.term) := by simp [curL, lineL]
/-- A cursor's line, as the reader takes it. -/
def pCur (s : List UInt8) : Option Lf := if (splitS 32 s).head? = some [99, 117, 114, 115, 111, 114] ∧ 2 < (splitS 32 s).length then pCurR (s.drop 7) else none
theorem splitS_app {s : UInt8} {a : List UInt8} (b : List UInt8) (h : s ∉ a) : splitS s (a ++ s :: b) = a :: splitS s b := by
  rw [splitS_iff (ws := a :: splitS s b) (fun x hx => (List.mem_cons.1 hx).elim (fun e => e ▸ h) (fun hx => splitS_mem x hx)), unlS_cons, unlS_splitS]
  simp
theorem splitS_two {s : UInt8} {l : List UInt8} (h : s ∈ l) : 1 < (splitS s l).length := by
  rcases Nat.lt_or_ge 1 (splitS s l).length with h1 | h1
  · exact h1
  · have hne := splitS_ne s l
    cases hs : splitS s l with
    | nil => exact absurd hs hne
    | cons x xs =>
      rw [hs] at h1
      have hx : xs = [] := by simpa using h1
      subst hx
      have := unlS_splitS s l
      rw [hs] at this
      have e : x = l := List.append_cancel_right (show x ++ [s] = l ++ [s] from by simpa [unlS] using this)
      exact absurd h (by rw [← e]; exact splitS_mem x (by rw [hs]; exact List.mem_cons_self))
theorem unlS_last (s : UInt8) (l : List (List UInt8)) (h : l ≠ []) : ∃ t, unlS s l = t ++ [s] := by
  induction l with
  | nil => exact absurd rfl h
  | cons x l ih =>
    rw [unlS_cons]
    cases l with
    | nil => exact ⟨x, rfl⟩
    | cons y l =>
      obtain ⟨t, ht⟩ := ih (by simp)
      exact ⟨x ++ s :: t, by rw [ht]; simp⟩
theorem head_split {s : UInt8} {l w : List UInt8} (h : (splitS s l).head? = some w) (h1 : 1 < (splitS s l).length) : ∃ r, l = w ++ s :: r := by
  cases hs : splitS s l with
  | nil => rw [hs] at h; cases h
  | cons x xs =>
    rw [hs] at h h1
    simp only [List.head?_cons, Option.some.injEq] at h
    subst h
    have := unlS_splitS s l
    rw [hs, unlS_cons] at this
    cases xs with
    | nil => simp at h1
    | cons y ys =>
      rw [unlS_cons] at this
      obtain ⟨t, ht⟩ := unlS_last s (y :: ys) (by simp)
      rw [unlS_cons] at ht
      refine ⟨t, List.append_cancel_right (bs := [s]) ?_⟩
      rw [← this, ht]; simp
theorem pCur_iff (s : List UInt8) (c : Lf) : pCur s = some c ↔ s = curL c ∧ 0 ≤ c.field ∧ c.field < 9223372036854775808 := by
  unfold pCur
  constructor
  · intro h
    split at h
    · rename_i hc
      obtain ⟨r, rfl⟩ := head_split hc.1 (by omega)
      have e : ([99, 117, 114, 115, 111, 114] ++ 32 :: r : List UInt8).drop 7 = r := rfl
      rw [e] at h
      obtain ⟨h1, h2⟩ := (pCurR_iff r c).1 h
      exact ⟨by rw [curL_form, h1], h2⟩
    · cases h
  · rintro ⟨rfl, hb⟩
    have e := splitS_app (s := 32) (a := [99, 117, 114, 115, 111, 114]) (numC c.field ++ 32 :: quoL c.term) (by decide)
    have h2 : 1 < (splitS 32 (numC c.field ++ 32 :: quoL c.term)).length := splitS_two (by simp)
    rw [curL_form, e, if_pos ⟨rfl, by rw [List.length_cons]; omega⟩]
    exact (pCurR_iff _ c).2 ⟨rfl, hb⟩
/-- Pairs of numbers, a plus between. -/
def pPairs : List (List UInt8) → Option (List (Int × Int))
  | [] => some []
  | w :: r => match wholeL 9223372036854775808 (cutS 43 w).1, wholeL 9223372036854775808 (cutS 43 w).2 with
    | some a, some b => (pPairs r).map (((a : Int), (b : Int)) :: ·)
    | _, _ => none
theorem pPairs_iff (ws : List (List UInt8)) (l : List (Int × Int)) : pPairs ws = some l ↔ ws = l.map (fun p => numC p.1 ++ 43 :: numC p.2) ∧ ∀ p ∈ l, (0 ≤ p.1 ∧ p.1 < 9223372036854775808) ∧ 0 ≤ p.2 ∧ p.2 < 9223372036854775808 := by
  induction ws generalizing l with
  | nil =>
    constructor
    · intro h; injection h with h; subst h; exact ⟨rfl, fun x hx => absurd hx List.not_mem_nil⟩
    · rintro ⟨h, _⟩
      cases l with
      | nil => rfl
      | cons _ _ => cases h
  | cons w r ih =>
    unfold pPairs
    constructor
    · intro h
      split at h
      · rename_i a b ha hb
        obtain ⟨l', h1, rfl⟩ := Option.map_eq_some_iff.1 h
        obtain ⟨e1, e2⟩ := (ih l').1 h1
        obtain ⟨a1, a2⟩ := (wholeL_iff _ _ _).1 ha
        obtain ⟨b1, b2⟩ := (wholeL_iff _ _ _).1 hb
        have hne : (cutS 43 w).2 ≠ [] := by rw [b1]; exact dgt_ne b
        obtain ⟨hw, _⟩ := cutS_some hne
        refine ⟨?_, ?_⟩
        · rw [List.map_cons, ← e1, hw, a1, b1]
          simp only [cutS_app _ (dgt_not (by decide) : (43 : UInt8) ∉ dgt a)]
          rfl
        · intro p hp
          rcases List.mem_cons.1 hp with rfl | hp
          · exact ⟨⟨Int.natCast_nonneg a, Int.ofNat_lt.2 a2⟩, Int.natCast_nonneg b, Int.ofNat_lt.2 b2⟩
          · exact e2 p hp
      · cases h
    · rintro ⟨h, hb⟩
      cases l with
      | nil => cases h
      | cons x l =>
        rw [List.map_cons] at h
        injection h with h1 h2
        subst h1
        have hx := hb x List.mem_cons_self
        have e1 : wholeL 9223372036854775808 (numC x.1) = some x.1.toNat := (wholeL_iff _ _ _).2 ⟨rfl, (Int.toNat_lt hx.1.1).2 hx.1.2⟩
        have e2 : wholeL 9223372036854775808 (numC x.2) = some x.2.toNat := (wholeL_iff _ _ _).2 ⟨rfl, (Int.toNat_lt hx.2.1).2 hx.2.2⟩
        rw [cutS_app _ (numC_not (by decide))]
        simp only [e1, e2]
        rw [(ih l).2 ⟨h2, fun y hy => hb y (List.mem_cons_of_mem _ hy)⟩]
        obtain ⟨a, b⟩ := x
        simp only [] at hx
        simp only [Option.map_some, Option.some.injEq, List.cons.injEq, Prod.mk.injEq, and_true]
        omega
/-- A phrase's line, as the reader takes it. -/
def pNear (s : List UInt8) : Option Nr := match splitS 32 s with
  | [110, 101, 97, 114] :: w :: ws => match wholeL 9223372036854775808 w, pPairs ws with
    | some k, some l => some ⟨(k : Int), l.map (·.1), l.map (·.2)⟩
    | _, _ => none
  | _ => none
def SmallN (n : Nr) : Prop := n.slop < 9223372036854775808 ∧ (∀ x ∈ n.cur, x < 9223372036854775808) ∧ ∀ x ∈ n.off, x < 9223372036854775808
theorem near_split (n : Nr) (ws : List (List UInt8)) (hws : ∀ x ∈ ws, (32 : UInt8) ∉ x) (s : List UInt8) (he : ws = (n.cur.zip n.off).map fun p => numC p.1 ++ 43 :: numC p.2) : splitS 32 s = [110, 101, 97, 114] :: numC n.slop :: ws ↔ s = nearL n := by
  rw [splitS_iff (fun x hx => by
    rcases List.mem_cons.1 hx with rfl | hx
    · decide
    · rcases List.mem_cons.1 hx with rfl | hx
      · exact numC_not (by decide)
      · exact hws x hx), unlS_cons, unlS_cons, he]
  have h := flat_unlS 32 (fun p : Int × Int => numC p.1 ++ 43 :: numC p.2) (n.cur.zip n.off)
  have hp : (fun p : Int × Int => 32 :: (numC p.1 ++ 43 :: numC p.2)) = pairL := by funext p; simp [pairL]
  rw [hp] at h
  rw [← h]
  have e : nearL n = [110, 101, 97, 114] ++ 32 :: (numC n.slop ++ (n.cur.zip n.off).flatMap pairL) := by simp [nearL, lineL]
  rw [e]
  constructor
  · intro h2; exact List.append_cancel_right (bs := [32]) (by simpa using h2)
  · rintro rfl; simp
theorem pair_no32 (l : List (Int × Int)) : ∀ x ∈ l.map (fun p : Int × Int => numC p.1 ++ 43 :: numC p.2), (32 : UInt8) ∉ x := by
  intro x hx hm
  obtain ⟨p, _, rfl⟩ := List.mem_map.1 hx
  rcases List.mem_append.1 hm with hm | hm
  · exact numC_not (by decide) hm
  · rcases List.mem_cons.1 hm with hm | hm
    · exact absurd hm (by decide)
    · exact numC_not (by decide) hm
theorem neg_of {l : List Int} (h : ∀ x ∈ l, 0 ≤ x) : neg l = false := by
  unfold neg; rw [List.any_eq_false]; intro x hx; have := h x hx; simp; omega
theorem zip_maps (l : List (Int × Int)) : (l.map (·.1)).zip (l.map (·.2)) = l := by
  induction l with
  | nil => rfl
  | cons x l ih => simp [ih]
theorem pNear_iff (s : List UInt8) (n : Nr) : pNear s = some n ↔ s = nearL n ∧ okN n = true ∧ SmallN n := by
  unfold pNear
  constructor
  · intro h
    split at h
    · rename_i w ws hs
      split at h
      · rename_i k l hk hl
        injection h with h
        subst h
        obtain ⟨e1, hb⟩ := (wholeL_iff _ _ _).1 hk
        obtain ⟨e2, hb2⟩ := (pPairs_iff _ _).1 hl
        refine ⟨(near_split ⟨(k : Int), l.map (·.1), l.map (·.2)⟩ ws (by rw [e2]; exact pair_no32 l) s (by rw [zip_maps]; exact e2)).1 (by rw [hs, e1]; rfl), ?_, Int.ofNat_lt.2 hb, ?_, ?_⟩
        · unfold okN
          have g1 : neg (l.map (·.1)) = false := neg_of (fun x hx => by obtain ⟨p, hp, rfl⟩ := List.mem_map.1 hx; exact (hb2 p hp).1.1)
          have g2 : neg (l.map (·.2)) = false := neg_of (fun x hx => by obtain ⟨p, hp, rfl⟩ := List.mem_map.1 hx; exact (hb2 p hp).2.1)
          simp [g1, g2]
        · intro x hx; obtain ⟨p, hp, rfl⟩ := List.mem_map.1 hx; exact (hb2 p hp).1.2
        · intro x hx; obtain ⟨p, hp, rfl⟩ := List.mem_map.1 hx; exact (hb2 p hp).2.2
      · cases h
    · cases h
  · rintro ⟨h, hok, h1, h2, h3⟩
    obtain ⟨k1, k2, k3, k4⟩ := okN_and hok
    have hs := (near_split n _ (pair_no32 _) s rfl).2 h
    rw [hs]
    have e1 : wholeL 9223372036854775808 (numC n.slop) = some n.slop.toNat := (wholeL_iff _ _ _).2 ⟨rfl, (Int.toNat_lt k1).2 h1⟩
    have e2 := (pPairs_iff _ (n.cur.zip n.off)).2 ⟨rfl, fun p hp => by
      have hm := List.of_mem_zip hp
      exact ⟨⟨neg_false k2 _ hm.1, h2 _ hm.1⟩, neg_false k3 _ hm.2, h3 _ hm.2⟩⟩
    simp only [e1, e2]
    rw [List.map_fst_zip (by omega), List.map_snd_zip (by omega)]
    obtain ⟨sl, cu, of⟩ := n
    simp only [] at k1
    simp only [Option.some.injEq, Nr.mk.injEq, and_true]
    omega
/-- An operation by its name. -/
def opIdx (w : List UInt8) : Option Nat := (List.range 17).find? fun i => decide (opName i = w)
theorem opIdx_iff (w : List UInt8) (i : Nat) : opIdx w = some i ↔ i < 17 ∧ w = opName i := by
  unfold opIdx
  constructor
  · intro h
    have h1 := List.find?_some h
    have h2 := List.mem_of_find?_eq_some h
    exact ⟨List.mem_range.1 h2, (of_decide_eq_true h1).symm⟩
  · rintro ⟨hi, rfl⟩
    have hall : ∀ i, i < 17 → ((List.range 17).find? fun j => decide (opName j = opName i)) = some i := by decide
    exact hall i hi
def top64 : Nat := 18446744073709551616
/-- An instruction's line, as the reader takes it. -/
def pIns (s : List UInt8) : Option Ins := match splitS 32 s with
  | [] => none
  | w :: ws => match opIdx w with
    | none => none
    | some i => match ws with
      | [] => if opArgs i = 0 then some ⟨i, 0, 0⟩ else none
      | [a] => if opArgs i = 1 then (wholeL top64 a).map fun v => ⟨i, v, 0⟩ else none
      | [a, b] => if opArgs i = 2 then (match wholeL top64 a, wholeL top64 b with
          | some v, some u => some ⟨i, v, u⟩
          | _, _ => none) else none
      | _ => none
theorem argsN_of {i n : Nat} (hi : i < 17) (h : opArgs i = (n : Int)) : argsN (i : Int) = some n := by
  unfold argsN
  rw [if_pos ⟨by omega, by omega⟩]
  simp only [Int.toNat_natCast]
  rw [h]; rfl
theorem insOk_of {i n a b : Nat} (hi : i < 17) (h : opArgs i = (n : Int)) (ha : n = 0 → a = 0) (hb : n < 2 → b = 0) : insOk ⟨(i : Int), a, b⟩ = true := by
  unfold insOk
  simp only [argsN_of hi h]
  by_cases h0 : n = 0
  · simp [ha h0, hb (by omega)]
  · by_cases h2 : n < 2
    · simp [hb h2]; omega
    · simp; omega
theorem opName_no32 (i : Nat) : (32 : UInt8) ∉ opName i := fun hm => absurd (opName_ge i 32 hm) (by decide)
theorem ins_split (i : Nat) (ns : List Nat) (s : List UInt8) : splitS 32 s = opName i :: ns.map dgt ↔ s = opName i ++ ns.flatMap fun n => 32 :: dgt n := by
  rw [splitS_iff (fun x hx => by
    rcases List.mem_cons.1 hx with rfl | hx
    · exact opName_no32 i
    · obtain ⟨n, _, rfl⟩ := List.mem_map.1 hx
      exact dgt_not (by decide)), unlS_cons, ← flat_unlS 32 dgt ns, ← List.append_assoc]
  exact ⟨fun h => List.append_cancel_right h, fun h => by rw [h]⟩
theorem pIns_iff (s : List UInt8) (x : Ins) : pIns s = some x ↔ s = insL x ∧ insOk x = true ∧ x.a < top64 ∧ x.b < top64 := by
  constructor
  · intro h
    unfold pIns at h
    split at h
    · cases h
    · rename_i w ws hs
      split at h
      · cases h
      · rename_i i hi
        obtain ⟨h17, rfl⟩ := (opIdx_iff _ _).1 hi
        split at h
        · split at h
          · rename_i h0
            injection h with h; subst h
            refine ⟨?_, insOk_of (n := 0) h17 h0 (fun _ => rfl) (fun _ => rfl), by show 0 < top64; decide, by show 0 < top64; decide⟩
            have := (ins_split i [] s).1 hs
            rw [this]; unfold insL; simp only [Int.toNat_natCast]; rw [h0]; simp
          · cases h
        · rename_i a
          split at h
          · rename_i h1
            obtain ⟨v, hv, rfl⟩ := Option.map_eq_some_iff.1 h
            obtain ⟨rfl, hb⟩ := (wholeL_iff _ _ _).1 hv
            refine ⟨?_, insOk_of (n := 1) h17 h1 (fun h => by omega) (fun _ => rfl), hb, by show 0 < top64; decide⟩
            have := (ins_split i [v] s).1 hs
            rw [this]; unfold insL; simp only [Int.toNat_natCast]; rw [h1]; simp
          · cases h
        · rename_i a b
          split at h
          · rename_i h1
            split at h
            · rename_i v u hv hu
              injection h with h; subst h
              obtain ⟨rfl, hb⟩ := (wholeL_iff _ _ _).1 hv
              obtain ⟨rfl, hb2⟩ := (wholeL_iff _ _ _).1 hu
              refine ⟨?_, insOk_of (n := 2) h17 h1 (fun h => by omega) (fun h => by omega), hb, hb2⟩
              have := (ins_split i [v, u] s).1 hs
              rw [this]; unfold insL; simp only [Int.toNat_natCast]; rw [h1]; simp
            · cases h
          · cases h
        · cases h
  · rintro ⟨rfl, hok, ha, hb⟩
    obtain ⟨op, a, b⟩ := x
    unfold insOk at hok
    simp only [] at hok ha hb
    split at hok
    · cases hok
    · rename_i n hn
      obtain ⟨h0, h17, hn2, hn3⟩ := argsN_some hn
      obtain ⟨i, rfl⟩ : ∃ i : Nat, op = (i : Int) := ⟨op.toNat, by omega⟩
      simp only [Int.toNat_natCast] at hn2
      have hi := (opIdx_iff (opName i) i).2 ⟨by omega, rfl⟩
      simp only [Bool.and_eq_true, Bool.or_eq_true, decide_eq_true_eq] at hok
      have hv := (wholeL_iff top64 (dgt a) a).2 ⟨rfl, ha⟩
      have hu := (wholeL_iff top64 (dgt b) b).2 ⟨rfl, hb⟩
      have h3 : n = 0 ∨ n = 1 ∨ n = 2 := by omega
      unfold pIns
      rcases h3 with rfl | rfl | rfl
      · have e1 : a = 0 := by simpa using hok.1
        have e2 : b = 0 := by simpa using hok.2
        have hs := (ins_split i [] (insL ⟨(i : Int), a, b⟩)).2 (by unfold insL; simp only [Int.toNat_natCast]; rw [hn2]; simp)
        rw [hs]
        simp only [List.map_nil, hi]
        rw [if_pos (show opArgs i = 0 from hn2), e1, e2]
      · have e2 : b = 0 := by simpa using hok.2
        have hs := (ins_split i [a] (insL ⟨(i : Int), a, b⟩)).2 (by unfold insL; simp only [Int.toNat_natCast]; rw [hn2]; simp)
        rw [hs]
        simp only [List.map_cons, List.map_nil, hi]
        rw [if_pos (show opArgs i = 1 from hn2), hv, e2]; rfl
      · have hs := (ins_split i [a, b] (insL ⟨(i : Int), a, b⟩)).2 (by unfold insL; simp only [Int.toNat_natCast]; rw [hn2]; simp)
        rw [hs]
        simp only [List.map_cons, List.map_nil, hi]
        rw [if_pos (show opArgs i = 2 from hn2), hv, hu]
end Go.Proofs.YtmdpfikalekmlaaGreatDoor
/- Layer 20, plainly: a listing read line by line. -/
namespace Go.Proofs.YtmdpfikalekmlaaGreatDoor
open Go.RowKit
set_option maxRecDepth 100000
set_option linter.unusedSimpArgs false
set_option linter.unusedVariables false

/-- A reader's state: part 0 none, 1 avgs, 2 cursors, 3 nears, 4 every, 5 drive, 6 code. -/
structure Rs where
  avgs : List Int
  curs : List Lf
  nears : List Nr
  all : Bool
  drive : List Int
  code : List Ins
  part : Nat
deriving DecidableEq
def rs0 : Rs := ⟨[], [], [], false, [], [], 0⟩
/-- One more line; none: no listing goes on with it. -/
def lineR (st : Rs) (s : List UInt8) : Option Rs :=
  if st.part = 0 then (pNums wdA s).map fun l => { st with avgs := l, part := 1 }
  else match (if st.part ≤ 2 then pCur s else none) with
    | some c => some { st with curs := st.curs ++ [c], part := 2 }
    | none => match (if st.part ≤ 3 then pNear s else none) with
      | some n => some { st with nears := st.nears ++ [n], part := 3 }
      | none => if s = wdE ∧ st.part < 4 then some { st with all := true, part := 4 }
        else match (if st.part < 5 then pNums wdD s else none) with
          | some (x :: l) => some { st with drive := x :: l, part := 5 }
          | _ => (pIns s).map fun x => { st with code := st.code ++ [x], part := 6 }
/-- All lines; else the number of the first that is refused (from 1 on). -/
def linesR : Rs → Nat → List (List UInt8) → Sum Rs Nat
  | st, _, [] => .inl st
  | st, k, s :: r => match lineR st s with
    | none => .inr (k + 1)
    | some st' => linesR st' (k + 1) r
/-- What a listing reads as: the program; or the number of the line at which it fails. -/
def readP (t : List UInt8) : Sum Pg Nat :=
  let ls := splitS 10 t
  match linesR rs0 0 ls.dropLast with
  | .inr n => .inr n
  | .inl st => if ls.getLast? ≠ some [] ∨ ls.length = 1 then .inr ls.length
    else .inl ⟨st.avgs, st.curs, st.nears, st.all, st.drive, if st.code.all insOk = true then encI st.code else []⟩
/-- Numbers that are ints, all of a program. -/
def SmallQ (p : Pg) : Prop := (∀ x ∈ p.avgs, x < 9223372036854775808) ∧ (∀ c ∈ p.curs, c.field < 9223372036854775808) ∧ (∀ n ∈ p.nears, SmallN n) ∧ ∀ x ∈ p.drive, x < 9223372036854775808
theorem word_cur (c : Lf) : wordL (curL c) = wdC := wordL_cur c
theorem pCur_no {s : List UInt8} (h : wordL s ≠ wdC) : pCur s = none := by
  cases hp : pCur s with
  | none => rfl
  | some c => obtain ⟨rfl, _⟩ := (pCur_iff s c).1 hp; exact absurd (wordL_cur c) h
theorem pNear_no {s : List UInt8} (h : wordL s ≠ wdN) : pNear s = none := by
  cases hp : pNear s with
  | none => rfl
  | some c => obtain ⟨rfl, _⟩ := (pNear_iff s c).1 hp; exact absurd (wordL_near c) h
theorem pNumsD_no {s : List UInt8} (h : wordL s ≠ wdD) : pNums wdD s = none := by
  cases hp : pNums wdD s with
  | none => rfl
  | some l => obtain ⟨rfl, _⟩ := (pNums_iff (by decide) s l).1 hp; exact absurd (wordL_line (by decide) l) h
theorem pIns_no {s : List UInt8} (h : wordL s = wdA ∨ wordL s = wdC ∨ wordL s = wdN ∨ wordL s = wdE ∨ wordL s = wdD) : pIns s = none := by
  cases hp : pIns s with
  | none => rfl
  | some x =>
    obtain ⟨rfl, _⟩ := (pIns_iff s x).1 hp
    rw [wordL_ins] at h
    obtain ⟨h1, h2, h3, h4, h5⟩ := opName_not x.op.toNat
    rcases h with h | h | h | h | h
    · exact absurd h h1
    · exact absurd h h2
    · exact absurd h h3
    · exact absurd h h4
    · exact absurd h h5
theorem lineR_cur {st : Rs} {c : Lf} (hp : 1 ≤ st.part) (hp2 : st.part ≤ 2) (h0 : 0 ≤ c.field) (h1 : c.field < 9223372036854775808) : lineR st (curL c) = some { st with curs := st.curs ++ [c], part := 2 } := by
  unfold lineR
  rw [if_neg (by omega), if_pos hp2, (pCur_iff _ c).2 ⟨rfl, h0, h1⟩]
theorem lineR_near {st : Rs} {n : Nr} (hp : 1 ≤ st.part) (hp2 : st.part ≤ 3) (h0 : okN n = true) (h1 : SmallN n) : lineR st (nearL n) = some { st with nears := st.nears ++ [n], part := 3 } := by
  unfold lineR
  rw [if_neg (by omega), pCur_no (by rw [wordL_near]; decide), if_pos hp2, (pNear_iff _ n).2 ⟨rfl, h0, h1⟩]
  simp
theorem lineR_every {st : Rs} (hp : 1 ≤ st.part) (hp2 : st.part < 4) : lineR st wdE = some { st with all := true, part := 4 } := by
  unfold lineR
  rw [if_neg (by omega), pCur_no (by decide), pNear_no (by decide)]
  simp [hp2]
theorem lineR_drive {st : Rs} {l : List Int} (hp : 1 ≤ st.part) (hp2 : st.part < 5) (hl : l ≠ []) (h0 : ∀ x ∈ l, 0 ≤ x ∧ x < 9223372036854775808) : lineR st (lineL wdD l) = some { st with drive := l, part := 5 } := by
  have hw : wordL (lineL wdD l) = wdD := wordL_line (by decide) l
  have hne : ¬ (lineL wdD l = wdE ∧ st.part < 4) := fun h => by
    have := hw; rw [h.1] at this; exact absurd this (by decide)
  unfold lineR
  rw [if_neg (by omega), pCur_no (by rw [hw]; decide), pNear_no (by rw [hw]; decide)]
  simp only [ite_self]
  rw [if_neg hne, if_pos hp2, (pNums_iff (by decide) _ l).2 ⟨rfl, h0⟩]
  cases l with
  | nil => exact absurd rfl hl
  | cons x l => rfl
theorem lineR_ins {st : Rs} {x : Ins} (hp : 1 ≤ st.part) (h0 : insOk x = true) (ha : x.a < top64) (hb : x.b < top64) : lineR st (insL x) = some { st with code := st.code ++ [x], part := 6 } := by
  have hw := wordL_ins x
  obtain ⟨h1, h2, h3, h4, h5⟩ := opName_not x.op.toNat
  have hne : ¬ (insL x = wdE ∧ st.part < 4) := fun h => by
    have := hw; rw [h.1] at this; exact h4 (this.symm.trans (by decide))
  unfold lineR
  rw [if_neg (by omega), pCur_no (by rw [hw]; exact h2), pNear_no (by rw [hw]; exact h3)]
  simp only [ite_self]
  rw [if_neg hne, pNumsD_no (by rw [hw]; exact h5)]
  simp only [ite_self]
  rw [(pIns_iff _ x).2 ⟨rfl, h0, ha, hb⟩]; rfl
theorem linesR_append (st : Rs) (k : Nat) (a b : List (List UInt8)) : linesR st k (a ++ b) = match linesR st k a with
    | .inl st' => linesR st' (k + a.length) b
    | .inr n => .inr n := by
  induction a generalizing st k with
  | nil => simp [linesR]
  | cons x a ih =>
    rw [List.cons_append, linesR, linesR]
    cases lineR st x with
    | none => rfl
    | some st' =>
      simp only [ih]
      cases linesR st' (k + 1) a with
      | inl _ => simp only [List.length_cons]; congr 1; omega
      | inr _ => rfl
theorem linesR_curs (st : Rs) (k : Nat) (l : List Lf) (hp : 1 ≤ st.part) (hp2 : st.part ≤ 2) (h : ∀ c ∈ l, 0 ≤ c.field ∧ c.field < 9223372036854775808) :
    ∃ q, q ≤ 2 ∧ 1 ≤ q ∧ linesR st k (l.map curL) = .inl { st with curs := st.curs ++ l, part := q } := by
  induction l generalizing st k with
  | nil => exact ⟨st.part, hp2, hp, by simp [linesR]⟩
  | cons c l ih =>
    have hc := h c List.mem_cons_self
    obtain ⟨q, h1, h2, h3⟩ := ih { st with curs := st.curs ++ [c], part := 2 } (k + 1) (show 1 ≤ 2 by decide) (show 2 ≤ 2 by decide) (fun x hx => h x (List.mem_cons_of_mem _ hx))
    refine ⟨q, h1, h2, ?_⟩
    rw [List.map_cons, linesR, lineR_cur hp hp2 hc.1 hc.2]
    simp only [h3, List.append_assoc, List.singleton_append]
theorem linesR_nears (st : Rs) (k : Nat) (l : List Nr) (hp : 1 ≤ st.part) (hp2 : st.part ≤ 3) (h : ∀ n ∈ l, okN n = true ∧ SmallN n) :
    ∃ q, q ≤ 3 ∧ 1 ≤ q ∧ linesR st k (l.map nearL) = .inl { st with nears := st.nears ++ l, part := q } := by
  induction l generalizing st k with
  | nil => exact ⟨st.part, hp2, hp, by simp [linesR]⟩
  | cons c l ih =>
    have hc := h c List.mem_cons_self
    obtain ⟨q, h1, h2, h3⟩ := ih { st with nears := st.nears ++ [c], part := 3 } (k + 1) (show 1 ≤ 3 by decide) (show 3 ≤ 3 by decide) (fun x hx => h x (List.mem_cons_of_mem _ hx))
    refine ⟨q, h1, h2, ?_⟩
    rw [List.map_cons, linesR, lineR_near hp hp2 hc.1 hc.2]
    simp only [h3, List.append_assoc, List.singleton_append]
theorem linesR_ins (st : Rs) (k : Nat) (l : List Ins) (hp : 1 ≤ st.part) (h : ∀ x ∈ l, insOk x = true ∧ x.a < top64 ∧ x.b < top64) :
    ∃ q, 1 ≤ q ∧ linesR st k (l.map insL) = .inl { st with code := st.code ++ l, part := q } := by
  induction l generalizing st k with
  | nil => exact ⟨st.part, hp, by simp [linesR]⟩
  | cons c l ih =>
    have hc := h c List.mem_cons_self
    obtain ⟨q, h2, h3⟩ := ih { st with code := st.code ++ [c], part := 6 } (k + 1) (show 1 ≤ 6 by decide) (fun x hx => h x (List.mem_cons_of_mem _ hx))
    refine ⟨q, h2, ?_⟩
    rw [List.map_cons, linesR, lineR_ins hp hc.1 hc.2.1 hc.2.2]
    simp only [h3, List.append_assoc, List.singleton_append]
/-- What is listed is read as it. -/
theorem linesR_all {p : Pg} {code : List Ins} (hok : okP p = true) (hs : SmallQ p) (hi : ∀ x ∈ code, insOk x = true ∧ x.a < top64 ∧ x.b < top64) :
    ∃ q, linesR rs0 0 (linesL p code) = .inl ⟨p.avgs, p.curs, p.nears, p.all, p.drive, code, q⟩ := by
  obtain ⟨k1, k2, k3, k4⟩ := okP_and hok
  obtain ⟨s1, s2, s3, s4⟩ := hs
  have ha : lineR rs0 (lineL wdA p.avgs) = some { rs0 with avgs := p.avgs, part := 1 } := by
    unfold lineR
    rw [if_pos (show rs0.part = 0 from rfl), (pNums_iff (by decide) _ p.avgs).2 ⟨rfl, fun x hx => ⟨neg_false k1 x hx, s1 x hx⟩⟩]; rfl
  unfold linesL headL
  rw [linesR_append, linesR_append, linesR_append, linesR_append, linesR_append]
  have e0 : linesR rs0 0 [lineL [97, 118, 103, 115] p.avgs] = .inl { rs0 with avgs := p.avgs, part := 1 } := by
    rw [linesR, show lineL [97, 118, 103, 115] p.avgs = lineL wdA p.avgs from rfl, ha]; rfl
  rw [e0]
  simp only []
  obtain ⟨q1, a1, b1, c1⟩ := linesR_curs { rs0 with avgs := p.avgs, part := 1 } (0 + [lineL [97, 118, 103, 115] p.avgs].length) p.curs (show 1 ≤ 1 by decide) (show 1 ≤ 2 by decide) (fun c hc => ⟨k3 c hc, s2 c hc⟩)
  rw [c1]
  simp only []
  obtain ⟨q2, a2, b2, c2⟩ := linesR_nears { rs0 with avgs := p.avgs, curs := rs0.curs ++ p.curs, part := q1 } (0 + ([lineL [97, 118, 103, 115] p.avgs] ++ p.curs.map curL).length) p.nears b1 (by show q1 ≤ 3; omega) (fun n hn => ⟨k4 n hn, s3 n hn⟩)
  rw [c2]
  simp only []
  have e3 : ∀ k, ∃ q3, q3 ≤ 4 ∧ 1 ≤ q3 ∧ linesR { rs0 with avgs := p.avgs, curs := rs0.curs ++ p.curs, nears := rs0.nears ++ p.nears, part := q2 } k (if p.all = true then [[101, 118, 101, 114, 121]] else []) = .inl { rs0 with avgs := p.avgs, curs := rs0.curs ++ p.curs, nears := rs0.nears ++ p.nears, all := p.all, part := q3 } := by
    intro k
    by_cases hA : p.all = true
    · refine ⟨4, by omega, by omega, ?_⟩
      rw [if_pos hA, linesR, show ([101, 118, 101, 114, 121] : List UInt8) = wdE from rfl, lineR_every b2 (by show q2 < 4; omega), hA]; rfl
    · refine ⟨q2, by omega, b2, ?_⟩
      have hf : p.all = false := by simpa using hA
      rw [if_neg hA, hf]; rfl
  obtain ⟨q3, a3, b3, c3⟩ := e3 (0 + ([lineL [97, 118, 103, 115] p.avgs] ++ p.curs.map curL ++ p.nears.map nearL).length)
  rw [c3]
  simp only []
  have e4 : ∀ k, ∃ q4, 1 ≤ q4 ∧ linesR { rs0 with avgs := p.avgs, curs := rs0.curs ++ p.curs, nears := rs0.nears ++ p.nears, all := p.all, part := q3 } k (if p.drive ≠ [] then [lineL [100, 114, 105, 118, 101] p.drive] else []) = .inl { rs0 with avgs := p.avgs, curs := rs0.curs ++ p.curs, nears := rs0.nears ++ p.nears, all := p.all, drive := p.drive, part := q4 } := by
    intro k
    by_cases hD : p.drive ≠ []
    · refine ⟨5, by omega, ?_⟩
      rw [if_pos hD, linesR, show lineL [100, 114, 105, 118, 101] p.drive = lineL wdD p.drive from rfl, lineR_drive b3 (by show q3 < 5; omega) hD (fun x hx => ⟨neg_false k2 x hx, s4 x hx⟩)]; rfl
    · refine ⟨q3, b3, ?_⟩
      have hf : p.drive = [] := by simpa using hD
      rw [if_neg hD, hf]; rfl
  obtain ⟨q4, b4, c4⟩ := e4 (0 + ([lineL [97, 118, 103, 115] p.avgs] ++ p.curs.map curL ++ p.nears.map nearL ++ (if p.all = true then [[101, 118, 101, 114, 121]] else [])).length)
  rw [c4]
  simp only []
  obtain ⟨q5, b5, c5⟩ := linesR_ins { rs0 with avgs := p.avgs, curs := rs0.curs ++ p.curs, nears := rs0.nears ++ p.nears, all := p.all, drive := p.drive, part := q4 } (0 + ([lineL [97, 118, 103, 115] p.avgs] ++ p.curs.map curL ++ p.nears.map nearL ++ (if p.all = true then [[101, 118, 101, 114, 121]] else []) ++ (if p.drive ≠ [] then [lineL [100, 114, 105, 118, 101] p.drive] else [])).length) code b4 hi
  exact ⟨q5, by rw [c5]; rfl⟩
theorem splitS_unl {ls : List (List UInt8)} (h : ∀ x ∈ ls, (10 : UInt8) ∉ x) : splitS 10 (unl ls) = ls ++ [[]] := by
  rw [splitS_iff (fun x hx => by
    rcases List.mem_append.1 hx with hx | hx
    · exact h x hx
    · obtain rfl := List.mem_singleton.1 hx; simp)]
  simp [unl, unlS]
theorem readP_textP {p : Pg} {s : List UInt8} (h : textP p = some s) (hs : SmallQ p) : readP s = .inl p := by
  obtain ⟨code, hd, hok, rfl⟩ := textP_get h
  obtain ⟨e1, e2, e3⟩ := encI_decI hd
  obtain ⟨q, hq⟩ := linesR_all hok hs (fun x hx => ⟨List.all_eq_true.1 e1 x hx, (e2 x hx).1, (e2 x hx).2⟩)
  unfold readP
  rw [splitS_unl (linesL_ge p code)]
  simp only [List.dropLast_concat, hq, List.getLast?_concat]
  rw [if_neg (by simp [linesL, headL]), if_pos e1, e3]
end Go.Proofs.YtmdpfikalekmlaaGreatDoor
/- Layer 20, plainly: what is read is listed again. -/
namespace Go.Proofs.YtmdpfikalekmlaaGreatDoor
open Go.RowKit
set_option maxRecDepth 100000
set_option linter.unusedSimpArgs false
set_option linter.unusedVariables false

def pgOf (st : Rs) : Pg := ⟨st.avgs, st.curs, st.nears, st.all, st.drive, encI st.code⟩
structure RInv (st : Rs) : Prop where
  one : 1 ≤ st.part
  nears : st.part ≤ 2 → st.nears = []
  all : st.part < 4 → st.all = false
  drive : st.part < 5 → st.drive = []
  code : st.part < 6 → st.code = []
  gav : ∀ x ∈ st.avgs, 0 ≤ x ∧ x < 9223372036854775808
  gdr : ∀ x ∈ st.drive, 0 ≤ x ∧ x < 9223372036854775808
  gcu : ∀ c ∈ st.curs, 0 ≤ c.field ∧ c.field < 9223372036854775808
  gne : ∀ n ∈ st.nears, okN n = true ∧ SmallN n
  gco : ∀ x ∈ st.code, insOk x = true ∧ x.a < top64 ∧ x.b < top64
theorem forall_snoc {α : Type} {P : α → Prop} {l : List α} {x : α} (h : ∀ y ∈ l, P y) (hx : P x) : ∀ y ∈ l ++ [x], P y := by
  intro y hy
  rcases List.mem_append.1 hy with hy | hy
  · exact h y hy
  · obtain rfl := List.mem_singleton.1 hy; exact hx
theorem lineR_first {s : List UInt8} {st' : Rs} (h : lineR rs0 s = some st') : RInv st' ∧ linesL (pgOf st') st'.code = [s] := by
  unfold lineR at h
  rw [if_pos (show rs0.part = 0 from rfl)] at h
  obtain ⟨l, hl, rfl⟩ := Option.map_eq_some_iff.1 h
  obtain ⟨rfl, hb⟩ := (pNums_iff (by decide) s l).1 hl
  refine ⟨⟨Nat.le_refl _, fun _ => rfl, fun _ => rfl, fun _ => rfl, fun _ => rfl, hb, (fun x hx => absurd hx List.not_mem_nil), (fun x hx => absurd hx List.not_mem_nil), (fun x hx => absurd hx List.not_mem_nil), (fun x hx => absurd hx List.not_mem_nil)⟩, ?_⟩
  simp [linesL, headL, pgOf, rs0, wdA]
theorem lineR_back {st st' : Rs} {s : List UInt8} (hi : RInv st) (h : lineR st s = some st') : RInv st' ∧ linesL (pgOf st') st'.code = linesL (pgOf st) st.code ++ [s] := by
  unfold lineR at h
  have hone := hi.one
  rw [if_neg (by omega)] at h
  split at h
  · rename_i c hc
    split at hc
    · rename_i hp
      injection h with h; subst h
      obtain ⟨rfl, hb⟩ := (pCur_iff s c).1 hc
      have e1 := hi.nears hp; have e2 := hi.all (by omega); have e3 := hi.drive (by omega); have e4 := hi.code (by omega)
      refine ⟨⟨by show 1 ≤ 2; decide, fun _ => e1, fun _ => e2, fun _ => e3, fun _ => e4, hi.gav, hi.gdr, forall_snoc hi.gcu hb, hi.gne, hi.gco⟩, ?_⟩
      simp [linesL, headL, pgOf, e1, e2, e3, e4]
    · cases hc
  · split at h
    · rename_i n hn
      split at hn
      · rename_i hp
        injection h with h; subst h
        obtain ⟨rfl, hb⟩ := (pNear_iff s n).1 hn
        have e2 := hi.all (by omega); have e3 := hi.drive (by omega); have e4 := hi.code (by omega)
        refine ⟨⟨by show 1 ≤ 3; decide, fun h => absurd h (by show ¬ 3 ≤ 2; decide), fun _ => e2, fun _ => e3, fun _ => e4, hi.gav, hi.gdr, hi.gcu, forall_snoc hi.gne hb, hi.gco⟩, ?_⟩
        simp [linesL, headL, pgOf, e2, e3, e4]
      · cases hn
    · split at h
      · rename_i he
        injection h with h; subst h
        obtain ⟨rfl, hp⟩ := he
        have e2 := hi.all hp; have e3 := hi.drive (by omega); have e4 := hi.code (by omega)
        refine ⟨⟨by show 1 ≤ 4; decide, fun h => absurd h (by show ¬ 4 ≤ 2; decide), fun h => absurd h (by show ¬ 4 < 4; decide), fun _ => e3, fun _ => e4, hi.gav, hi.gdr, hi.gcu, hi.gne, hi.gco⟩, ?_⟩
        simp [linesL, headL, pgOf, e2, e3, e4, wdE]
      · split at h
        · rename_i x l hd
          split at hd
          · rename_i hp
            injection h with h; subst h
            obtain ⟨rfl, hb⟩ := (pNums_iff (by decide) s (x :: l)).1 hd
            have e3 := hi.drive hp; have e4 := hi.code (by omega)
            refine ⟨⟨by show 1 ≤ 5; decide, fun h => absurd h (by show ¬ 5 ≤ 2; decide), fun h => absurd h (by show ¬ 5 < 4; decide), fun h => absurd h (by show ¬ 5 < 5; decide), fun _ => e4, hi.gav, hb, hi.gcu, hi.gne, hi.gco⟩, ?_⟩
            simp [linesL, headL, pgOf, e3, e4, wdD]
          · cases hd
        · obtain ⟨x, hx, rfl⟩ := Option.map_eq_some_iff.1 h
          obtain ⟨rfl, hb⟩ := (pIns_iff s x).1 hx
          refine ⟨⟨by show 1 ≤ 6; decide, fun h => absurd h (by show ¬ 6 ≤ 2; decide), fun h => absurd h (by show ¬ 6 < 4; decide), fun h => absurd h (by show ¬ 6 < 5; decide), fun h => absurd h (by show ¬ 6 < 6; decide), hi.gav, hi.gdr, hi.gcu, hi.gne, forall_snoc hi.gco hb⟩, ?_⟩
          unfold linesL
          rw [List.map_append, ← List.append_assoc]; rfl
theorem linesR_back {st st' : Rs} {k : Nat} {ls : List (List UInt8)} (hi : RInv st) (h : linesR st k ls = .inl st') : RInv st' ∧ linesL (pgOf st') st'.code = linesL (pgOf st) st.code ++ ls := by
  induction ls generalizing st k with
  | nil => rw [linesR] at h; injection h with h; subst h; exact ⟨hi, by simp⟩
  | cons s r ih =>
    rw [linesR] at h
    cases hl : lineR st s with
    | none => rw [hl] at h; cases h
    | some st1 =>
      rw [hl] at h
      obtain ⟨h1, h2⟩ := lineR_back hi hl
      obtain ⟨h3, h4⟩ := ih h1 h
      exact ⟨h3, by rw [h4, h2]; simp⟩
/-- What is read is listed again. -/
theorem textP_readP {t : List UInt8} {p : Pg} (h : readP t = .inl p) : textP p = some t ∧ SmallQ p := by
  unfold readP at h
  simp only [] at h
  split at h
  · cases h
  · rename_i st hst
    split at h
    · cases h
    · rename_i hc
      injection h with h
      have hc1 : (splitS 10 t).getLast? = some [] := by
        by_cases he : (splitS 10 t).getLast? = some []
        · exact he
        · exact absurd (Or.inl he) hc
      have hc2 : (splitS 10 t).length ≠ 1 := fun he => hc (Or.inr he)
      have hne := splitS_ne 10 t
      have hsp : splitS 10 t = (splitS 10 t).dropLast ++ [[]] := by
        have h1 := List.dropLast_concat_getLast hne
        have h2 : (splitS 10 t).getLast hne = [] := by
          rw [List.getLast?_eq_some_getLast hne] at hc1
          exact Option.some.inj hc1
        rw [h2] at h1
        exact h1.symm
      have hun := unlS_splitS 10 t
      rw [hsp] at hun
      have ht : t = unl (splitS 10 t).dropLast := by
        have : unlS 10 ((splitS 10 t).dropLast ++ [[]]) = unl (splitS 10 t).dropLast ++ [10] := by simp [unl, unlS]
        rw [this] at hun
        exact (List.append_cancel_right hun).symm
      cases hls : (splitS 10 t).dropLast with
      | nil =>
        exfalso
        rw [hls] at hsp
        rw [hsp] at hc2
        exact hc2 rfl
      | cons s r =>
        rw [hls, linesR] at hst
        cases hl : lineR rs0 s with
        | none => rw [hl] at hst; cases hst
        | some st1 =>
          rw [hl] at hst
          obtain ⟨i1, e1⟩ := lineR_first hl
          obtain ⟨i2, e2⟩ := linesR_back i1 hst
          have hall : st.code.all insOk = true := by rw [List.all_eq_true]; exact fun x hx => (i2.gco x hx).1
          rw [if_pos hall] at h
          have hp : pgOf st = p := h
          have hd : decI p.code = some st.code := by rw [← hp]; exact decI_encI hall (fun x hx => (i2.gco x hx).2)
          have hok : okP p = true := by
            rw [← hp]
            unfold okP
            have g1 : neg (pgOf st).avgs = false := neg_of (fun x hx => (i2.gav x hx).1)
            have g2 : neg (pgOf st).drive = false := neg_of (fun x hx => (i2.gdr x hx).1)
            have g3 : (pgOf st).curs.all (fun c => decide (0 ≤ c.field)) = true := by rw [List.all_eq_true]; exact fun c hc => decide_eq_true (i2.gcu c hc).1
            have g4 : (pgOf st).nears.all okN = true := by rw [List.all_eq_true]; exact fun n hn => (i2.gne n hn).1
            rw [g1, g2, g3, g4]; rfl
          refine ⟨?_, ?_⟩
          · unfold textP
            rw [hd]
            simp only [hok, if_true]
            rw [ht, hls, ← hp, e2, e1]; rfl
          · rw [← hp]
            exact ⟨fun x hx => (i2.gav x hx).2, fun c hc => (i2.gcu c hc).2, fun n hn => (i2.gne n hn).2, fun x hx => (i2.gdr x hx).2⟩
end Go.Proofs.YtmdpfikalekmlaaGreatDoor
/- Layer 20, plainly: lines as the document takes them: what could stand there is taken out, and must be what the line is written as. -/
namespace Go.Proofs.YtmdpfikalekmlaaGreatDoor
open Go.RowKit
set_option maxRecDepth 100000
set_option linter.unusedSimpArgs false
set_option linter.unusedVariables false

/-- The last number made ten times it and a digit, modulo 2^64. -/
def addDig (l : List Nat) (d : Nat) : List Nat := l.dropLast ++ [(l.getLastD 0 * 10 + d) % 18446744073709551616]
def numStep (st : List Nat × Bool) (c : UInt8) : List Nat × Bool :=
  if isDig c = true then (addDig (if st.2 = true then st.1 else st.1 ++ [0]) (c.toNat - 48), true) else (st.1, false)
def numRun (st : List Nat × Bool) (s : List UInt8) : List Nat × Bool := s.foldl numStep st
/-- All runs of digits, as numbers. -/
def numsL (s : List UInt8) : List Nat := (numRun ([], false) s).1
theorem numRun_app (st : List Nat × Bool) (a b : List UInt8) : numRun st (a ++ b) = numRun (numRun st a) b := by simp [numRun]
theorem isDig_dgt (n : Nat) : ∀ c ∈ dgt n, isDig c = true := by
  intro c hc
  have := dgt_mem n c hc
  unfold isDig; simp; omega
theorem addDig_snoc (l : List Nat) (v d : Nat) : addDig (l ++ [v]) d = l ++ [(v * 10 + d) % 18446744073709551616] := by simp [addDig]
theorem numRun_dgt (out : List Nat) (n : Nat) : numRun (out, false) (dgt n) = (out ++ [n % 18446744073709551616], true) := by
  induction n using Nat.strongRecOn with
  | ind n ih =>
    have hs : ∀ d, d < 10 → isDig (UInt8.ofNat (48 + d)) = true ∧ (UInt8.ofNat (48 + d)).toNat - 48 = d := fun d hd => by
      have := dig_nat hd
      refine ⟨?_, by omega⟩
      unfold isDig; rw [this]; simp; omega
    by_cases h : n < 10
    · rw [dgt_small h]
      obtain ⟨h1, h2⟩ := hs n h
      show numStep (out, false) _ = _
      unfold numStep
      rw [if_pos h1, h2]
      simp only [Bool.false_eq_true, if_false, addDig_snoc]
      congr 3; omega
    · rw [dgt_big h, numRun_app, ih (n / 10) (by omega)]
      obtain ⟨h1, h2⟩ := hs (n % 10) (by omega)
      show numStep (_, true) _ = _
      unfold numStep
      rw [if_pos h1, h2]
      simp only [if_true, addDig_snoc]
      congr 3; omega
def noDig (s : List UInt8) : Prop := ∀ c ∈ s, isDig c = false
theorem numRun_no {s : List UInt8} (h : noDig s) (out : List Nat) : numRun (out, false) s = (out, false) := by
  induction s with
  | nil => rfl
  | cons c r ih =>
    show numRun (numStep (out, false) c) r = _
    unfold numStep
    rw [if_neg (by rw [h c List.mem_cons_self]; decide)]
    exact ih (fun x hx => h x (List.mem_cons_of_mem _ hx))
theorem numRun_sep {c : UInt8} (h : isDig c = false) (st : List Nat × Bool) (r : List UInt8) : numRun st (c :: r) = numRun (st.1, false) r := by
  show numRun (numStep st c) r = _
  unfold numStep
  rw [if_neg (by rw [h]; decide)]
/-- Numbers behind signs. -/
theorem numRun_flat {c : UInt8} (h : isDig c = false) (ns : List Nat) (out : List Nat) (b : Bool) : (numRun (out, b) (ns.flatMap fun n => c :: dgt n)).1 = out ++ ns.map (· % 18446744073709551616) := by
  induction ns generalizing out b with
  | nil => simp [numRun]
  | cons n ns ih =>
    rw [List.flatMap_cons, numRun_app, numRun_sep h, numRun_dgt, ih]
    simp
theorem numsL_word {w : List UInt8} (hw : noDig w) (ns : List Nat) : numsL (w ++ ns.flatMap fun n => 32 :: dgt n) = ns.map (· % 18446744073709551616) := by
  unfold numsL
  rw [numRun_app, numRun_no hw, numRun_flat (by decide)]; rfl
theorem lineL_nats (w : List UInt8) (l : List Int) : lineL w l = w ++ (l.map Int.toNat).flatMap fun n => 32 :: dgt n := by
  unfold lineL
  rw [List.flatMap_map]; rfl
/-- Numbers as ints; those that are none as 0. -/
def rints (l : List Nat) : List Int := l.map fun (v : Nat) => if 9223372036854775807 < v then (0 : Int) else (v : Int)
theorem rints_small (l : List Nat) : ∀ x ∈ rints l, 0 ≤ x ∧ x < 9223372036854775808 := by
  intro x hx
  obtain ⟨v, _, rfl⟩ := List.mem_map.1 hx
  split <;> omega
theorem rints_of {l : List Int} (h : ∀ x ∈ l, 0 ≤ x ∧ x < 9223372036854775808) : rints ((l.map Int.toNat).map (· % 18446744073709551616)) = l := by
  unfold rints
  rw [List.map_map, List.map_map]
  conv => rhs; rw [← List.map_id l]
  apply List.map_congr_left
  intro x hx
  have := h x hx
  simp only [Function.comp, id]
  rw [Nat.mod_eq_of_lt (by omega), if_neg (by omega)]
  omega
/-- Words' lines, as the document takes them. -/
def rNums (w : List UInt8) (s : List UInt8) : Option (List Int) := if s = lineL w (rints (numsL s)) then some (rints (numsL s)) else none
theorem rNums_eq {w : List UInt8} (hw : ∀ c ∈ w, 33 ≤ c.toNat) (hd : noDig w) (s : List UInt8) : rNums w s = pNums w s := by
  have key : ∀ l, rNums w s = some l ↔ pNums w s = some l := by
    intro l
    rw [pNums_iff hw]
    unfold rNums
    constructor
    · intro h
      split at h
      · rename_i h1
        injection h with h
        exact ⟨by rw [← h]; exact h1, by rw [← h]; exact rints_small _⟩
      · cases h
    · rintro ⟨h, hb⟩
      have e : rints (numsL s) = l := by rw [h, lineL_nats, numsL_word hd, rints_of hb]
      rw [e, if_pos h]
  cases h1 : rNums w s with
  | none =>
    cases h2 : pNums w s with
    | none => rfl
    | some l => rw [(key l).2 h2] at h1; cases h1
  | some l => rw [(key l).1 h1]
/-- A hex digit, or 0. -/
def hexed (b : UInt8) : Nat := (hexV b).getD 0
/-- A term out of its quotes, as far as it goes (behind the first sign; the last is not taken). -/
def runqF : List UInt8 → List UInt8
  | [] => []
  | [_] => []
  | c :: d :: r => if c = 92 ∧ r ≠ [] then (match r with
      | e :: r' => UInt8.ofNat (hexed d * 16 + hexed e) :: runqF r'
      | [] => []) else c :: runqF (d :: r)
theorem runqF_quo (t : List UInt8) : runqF (t.flatMap quoC ++ [34]) = t := by
  induction t with
  | nil => rfl
  | cons c t ih =>
    rw [List.flatMap_cons]
    have hne : t.flatMap quoC ++ [34] ≠ [] := by simp
    by_cases hp : plainC c = true
    · have e : quoC c = [c] := by unfold quoC; rw [if_pos hp]
      rw [e, List.append_assoc, List.singleton_append]
      cases hq : t.flatMap quoC ++ [34] with
      | nil => exact absurd hq hne
      | cons d r =>
        rw [hq] at ih
        rw [runqF.eq_def]
        simp only []
        rw [if_neg (fun h => plainC_not92 hp h.1), ih]
    · have e : quoC c = [92, hexC (c.toNat / 16), hexC (c.toNat % 16)] := by unfold quoC; rw [if_neg hp]
      have hc := c.toNat_lt
      have e1 : hexed (hexC (c.toNat / 16)) = c.toNat / 16 := by unfold hexed; rw [(hexV_iff _ _).2 ⟨by omega, rfl⟩]; rfl
      have e2 : hexed (hexC (c.toNat % 16)) = c.toNat % 16 := by unfold hexed; rw [(hexV_iff _ _).2 ⟨by omega, rfl⟩]; rfl
      rw [e]
      simp only [List.cons_append, List.nil_append, List.append_assoc]
      rw [runqF.eq_def]
      simp only []
      rw [if_pos ⟨by trivial, by simp⟩, e1, e2, ih]
      congr 1
      apply UInt8.toNat_inj.1
      rw [UInt8.toNat_ofNat', show c.toNat / 16 * 16 + c.toNat % 16 = c.toNat by omega]
      exact Nat.mod_eq_of_lt hc
/-- A cursor's line, as the document takes it. -/
def rCur (s : List UInt8) : Option Lf :=
  let head := [99, 117, 114, 115, 111, 114, 32] ++ wordL (s.drop 7) ++ [32]
  match rints (numsL head) with
  | [f] => if s.length ≤ head.length then none else if s = curL ⟨f, runqF ((s.drop head.length).drop 1)⟩ then some ⟨f, runqF ((s.drop head.length).drop 1)⟩ else none
  | _ => none
theorem rCur_eq (s : List UInt8) : rCur s = pCur s := by
  have key : ∀ c, rCur s = some c ↔ pCur s = some c := by
    intro c
    rw [pCur_iff]
    unfold rCur
    constructor
    · intro h
      simp only [] at h
      split at h
      · rename_i f hf
        split at h
        · cases h
        · split at h
          · rename_i h1
            injection h with h
            have hb := rints_small (numsL ([99, 117, 114, 115, 111, 114, 32] ++ wordL (s.drop 7) ++ [32])) f (by rw [hf]; exact List.mem_cons_self)
            subst h
            exact ⟨h1, hb.1, hb.2⟩
          · cases h
      · cases h
    · rintro ⟨h, h0, h1⟩
      have hd : s.drop 7 = numC c.field ++ 32 :: quoL c.term := by rw [h, curL_form]; rfl
      have hw : wordL (s.drop 7) = numC c.field := by rw [hd]; exact wordL_sep (fun x hx => by have := dgt_mem _ x hx; omega) _
      have hn : numsL ([99, 117, 114, 115, 111, 114, 32] ++ wordL (s.drop 7) ++ [32]) = [c.field.toNat % 18446744073709551616] := by
        rw [hw]
        unfold numsL
        rw [numRun_app, numRun_app, numRun_no (by unfold noDig; decide), show numC c.field = dgt c.field.toNat from rfl, numRun_dgt, numRun_sep (by decide)]
        rfl
      have hr : rints [c.field.toNat % 18446744073709551616] = [c.field] := by
        have := rints_of (l := [c.field]) (fun x hx => by obtain rfl := List.mem_singleton.1 hx; exact ⟨h0, h1⟩)
        simpa using this
      simp only [hn, hr]
      have hl : ([99, 117, 114, 115, 111, 114, 32] ++ wordL (s.drop 7) ++ [32]).length = 8 + (numC c.field).length := by rw [hw]; simp; omega
      have hsl : s.length = 8 + (numC c.field).length + (quoL c.term).length := by rw [h, curL_form]; simp; omega
      have hq : 2 ≤ (quoL c.term).length := by unfold quoL; simp
      have hdr : s.drop (8 + (numC c.field).length) = quoL c.term := by
        rw [show 8 + (numC c.field).length = 7 + (1 + (numC c.field).length) by omega, ← List.drop_drop, hd, show 1 + (numC c.field).length = (numC c.field ++ [32]).length by simp; omega]
        rw [show numC c.field ++ 32 :: quoL c.term = (numC c.field ++ [32]) ++ quoL c.term by simp, List.drop_left]
      rw [hl, if_neg (by omega), hdr]
      have hu : runqF ((quoL c.term).drop 1) = c.term := by unfold quoL; exact runqF_quo c.term
      rw [hu]
      rw [if_pos h]
  cases h1 : rCur s with
  | none =>
    cases h2 : pCur s with
    | none => rfl
    | some l => rw [(key l).2 h2] at h1; cases h1
  | some l => rw [(key l).1 h1]
theorem opt_eq {α : Type} {a b : Option α} (h : ∀ x, a = some x ↔ b = some x) : a = b := by
  cases h1 : a with
  | none =>
    cases h2 : b with
    | none => rfl
    | some l => rw [(h l).2 h2] at h1; cases h1
  | some l => rw [(h l).1 h1]
def pairUp : List Int → List (Int × Int)
  | a :: b :: r => (a, b) :: pairUp r
  | _ => []
theorem pairUp_mem : ∀ (l : List Int) (p : Int × Int), p ∈ pairUp l → p.1 ∈ l ∧ p.2 ∈ l
  | [], p, h => by cases h
  | [_], p, h => by cases h
  | a :: b :: r, p, h => by
    unfold pairUp at h
    rcases List.mem_cons.1 h with rfl | h
    · exact ⟨List.mem_cons_self, List.mem_cons_of_mem _ List.mem_cons_self⟩
    · have := pairUp_mem r p h
      exact ⟨List.mem_cons_of_mem _ (List.mem_cons_of_mem _ this.1), List.mem_cons_of_mem _ (List.mem_cons_of_mem _ this.2)⟩
theorem pairUp_flat (ps : List (Int × Int)) : pairUp (ps.flatMap fun p => [p.1, p.2]) = ps := by
  induction ps with
  | nil => rfl
  | cons p ps ih => rw [List.flatMap_cons]; show (p.1, p.2) :: pairUp (ps.flatMap fun p => [p.1, p.2]) = _; rw [ih]
theorem flat_even (ps : List (Int × Int)) : (ps.flatMap fun p => [p.1, p.2]).length % 2 = 0 := by
  induction ps with
  | nil => rfl
  | cons p ps ih => rw [List.flatMap_cons, List.length_append]; simp only [List.length_cons, List.length_nil]; omega
/-- A phrase's line, as the document takes it. -/
def rNear (s : List UInt8) : Option Nr := match rints (numsL s) with
  | [] => none
  | k :: l => if l.length % 2 = 0 then (if s = nearL ⟨k, (pairUp l).map (·.1), (pairUp l).map (·.2)⟩ then some ⟨k, (pairUp l).map (·.1), (pairUp l).map (·.2)⟩ else none) else none
theorem numRun_pairs (ps : List (Int × Int)) (out : List Nat) (b : Bool) : (numRun (out, b) (ps.flatMap pairL)).1 = out ++ ((ps.flatMap fun p => [p.1, p.2]).map Int.toNat).map (· % 18446744073709551616) := by
  induction ps generalizing out b with
  | nil => simp [numRun]
  | cons p ps ih =>
    have e : pairL p = 32 :: (dgt p.1.toNat ++ 43 :: dgt p.2.toNat) := by simp [pairL, numC]
    rw [List.flatMap_cons, e, List.cons_append, numRun_sep (by decide), List.append_assoc, numRun_app, numRun_dgt, List.cons_append, numRun_sep (by decide), numRun_app, numRun_dgt, ih]
    simp
theorem rNear_eq (s : List UInt8) : rNear s = pNear s := by
  refine opt_eq fun n => ?_
  rw [pNear_iff]
  unfold rNear
  constructor
  · intro h
    cases hr : rints (numsL s) with
    | nil => rw [hr] at h; cases h
    | cons k l =>
      rw [hr] at h
      simp only [] at h
      split at h
      · split at h
        · rename_i h1
          injection h with h
          have hb := rints_small (numsL s)
          rw [hr] at hb
          have hk := hb k List.mem_cons_self
          have hp : ∀ p ∈ pairUp l, (0 ≤ p.1 ∧ p.1 < 9223372036854775808) ∧ 0 ≤ p.2 ∧ p.2 < 9223372036854775808 := fun p hp => by
            have := pairUp_mem l p hp
            exact ⟨hb _ (List.mem_cons_of_mem _ this.1), hb _ (List.mem_cons_of_mem _ this.2)⟩
          subst h
          refine ⟨h1, ?_, hk.2, ?_, ?_⟩
          · unfold okN
            have g1 : neg ((pairUp l).map (·.1)) = false := neg_of (fun x hx => by obtain ⟨p, hp2, rfl⟩ := List.mem_map.1 hx; exact (hp p hp2).1.1)
            have g2 : neg ((pairUp l).map (·.2)) = false := neg_of (fun x hx => by obtain ⟨p, hp2, rfl⟩ := List.mem_map.1 hx; exact (hp p hp2).2.1)
            simp [g1, g2, hk.1]
          · intro x hx; obtain ⟨p, hp2, rfl⟩ := List.mem_map.1 hx; exact (hp p hp2).1.2
          · intro x hx; obtain ⟨p, hp2, rfl⟩ := List.mem_map.1 hx; exact (hp p hp2).2.2
        · cases h
      · cases h
  · rintro ⟨h, hok, h1, h2, h3⟩
    obtain ⟨k1, k2, k3, k4⟩ := okN_and hok
    have hn : rints (numsL s) = n.slop :: (n.cur.zip n.off).flatMap fun p => [p.1, p.2] := by
      have e : nearL n = [110, 101, 97, 114] ++ ([n.slop.toNat].flatMap fun m => 32 :: dgt m) ++ (n.cur.zip n.off).flatMap pairL := by simp [nearL, lineL, numC]
      have en : numsL s = ((n.slop :: (n.cur.zip n.off).flatMap fun p => [p.1, p.2]).map Int.toNat).map (· % 18446744073709551616) := by
        rw [h, e]
        unfold numsL
        rw [numRun_app, numRun_pairs, numRun_app, numRun_no (by unfold noDig; decide), numRun_flat (by decide)]
        simp
      rw [en]
      refine rints_of (fun x hx => ?_)
      rcases List.mem_cons.1 hx with rfl | hx
      · exact ⟨k1, h1⟩
      · obtain ⟨p, hp, hx⟩ := List.mem_flatMap.1 hx
        have hm := List.of_mem_zip hp
        simp only [List.mem_cons, List.not_mem_nil, or_false] at hx
        rcases hx with rfl | rfl
        · exact ⟨neg_false k2 _ hm.1, h2 _ hm.1⟩
        · exact ⟨neg_false k3 _ hm.2, h3 _ hm.2⟩
    rw [hn]
    simp only []
    rw [if_pos (flat_even _), pairUp_flat, List.map_fst_zip (by omega), List.map_snd_zip (by omega)]
    obtain ⟨sl, cu, of⟩ := n
    rw [if_pos h]
theorem numStep_lt {st : List Nat × Bool} (c : UInt8) (h : ∀ x ∈ st.1, x < top64) : ∀ x ∈ (numStep st c).1, x < top64 := by
  have ha : ∀ (l : List Nat) (d : Nat), (∀ x ∈ l, x < top64) → ∀ x ∈ addDig l d, x < top64 := by
    intro l d hl x hx
    unfold addDig at hx
    rcases List.mem_append.1 hx with hx | hx
    · exact hl x (List.dropLast_subset l hx)
    · obtain rfl := List.mem_singleton.1 hx
      exact Nat.mod_lt _ (by decide)
  unfold numStep
  split
  · refine ha _ _ ?_
    split
    · exact h
    · exact forall_snoc h (by decide)
  · exact h
theorem numsL_lt (s : List UInt8) : ∀ x ∈ numsL s, x < top64 := by
  have key : ∀ (s : List UInt8) (st : List Nat × Bool), (∀ x ∈ st.1, x < top64) → ∀ x ∈ (numRun st s).1, x < top64 := by
    intro s
    induction s with
    | nil => intro st h; exact h
    | cons c r ih => intro st h; exact ih (numStep st c) (numStep_lt c h)
  exact key s ([], false) (fun x hx => absurd hx List.not_mem_nil)
/-- An instruction's line, as the document takes it. -/
def rIns (s : List UInt8) : Option Ins := match (List.range 17).find? fun i => decide (opName i = wordL s) && decide (opArgs i = ((numsL s).length : Int)) with
  | none => none
  | some i => if s = insL ⟨i, (numsL s).getD 0 0, (numsL s).getD 1 0⟩ then some ⟨i, (numsL s).getD 0 0, (numsL s).getD 1 0⟩ else none
theorem opName_noDig (i : Nat) : noDig (opName i) := by
  unfold noDig
  rcases Nat.lt_or_ge i 17 with h | h
  · have : ∀ j, j < 17 → ∀ c ∈ opName j, isDig c = false := by decide
    exact this i h
  · unfold opName
    rw [List.getD_eq_getElem?_getD, List.getElem?_eq_none (by rw [opTab_len]; exact h)]
    intro x hx; cases hx
theorem getD_lt {l : List Nat} (h : ∀ x ∈ l, x < top64) (j : Nat) : l.getD j 0 < top64 := by
  rw [List.getD_eq_getElem?_getD]
  cases hj : l[j]? with
  | none => show 0 < top64; decide
  | some x => exact h x (List.mem_of_getElem? hj)
theorem rIns_eq (s : List UInt8) : rIns s = pIns s := by
  refine opt_eq fun x => ?_
  rw [pIns_iff]
  unfold rIns
  constructor
  · intro h
    split at h
    · cases h
    · rename_i i hi
      have h1 := List.find?_some hi
      have h2 := List.mem_range.1 (List.mem_of_find?_eq_some hi)
      simp only [Bool.and_eq_true, decide_eq_true_eq] at h1
      split at h
      · rename_i h3
        injection h with h
        subst h
        refine ⟨h3, insOk_of (n := (numsL s).length) h2 h1.2 (fun h0 => ?_) (fun h0 => ?_), getD_lt (numsL_lt s) 0, getD_lt (numsL_lt s) 1⟩
        · rw [List.getD_eq_getElem?_getD, List.getElem?_eq_none (by omega)]; rfl
        · rw [List.getD_eq_getElem?_getD, List.getElem?_eq_none (by omega)]; rfl
      · cases h
  · rintro ⟨h, hok, ha, hb⟩
    obtain ⟨op, a, b⟩ := x
    have hok2 := hok
    unfold insOk at hok
    simp only [] at hok ha hb
    split at hok
    · cases hok
    · rename_i n hn
      obtain ⟨h0, h17, hn2, hn3⟩ := argsN_some hn
      obtain ⟨i, rfl⟩ : ∃ i : Nat, op = (i : Int) := ⟨op.toNat, by omega⟩
      simp only [Int.toNat_natCast] at hn2
      have hw : wordL s = opName i := by rw [h]; exact wordL_ins _
      simp only [Bool.and_eq_true, Bool.or_eq_true, decide_eq_true_eq] at hok
      have h3 : n = 0 ∨ n = 1 ∨ n = 2 := by omega
      have hns : ∃ ns : List Nat, numsL s = ns ∧ ns.length = n ∧ ns.getD 0 0 = a ∧ ns.getD 1 0 = b := by
        rcases h3 with rfl | rfl | rfl
        · have e1 : a = 0 := by simpa using hok.1
          have e2 : b = 0 := by simpa using hok.2
          refine ⟨[], ?_, rfl, e1.symm, e2.symm⟩
          have e : insL ⟨(i : Int), a, b⟩ = opName i ++ ([] : List Nat).flatMap fun n => 32 :: dgt n := by unfold insL; simp only [Int.toNat_natCast]; rw [hn2]; simp
          rw [h, e, numsL_word (opName_noDig i)]; rfl
        · have e2 : b = 0 := by simpa using hok.2
          refine ⟨[a], ?_, rfl, rfl, e2.symm⟩
          have e : insL ⟨(i : Int), a, b⟩ = opName i ++ [a].flatMap fun n => 32 :: dgt n := by unfold insL; simp only [Int.toNat_natCast]; rw [hn2]; simp
          rw [h, e, numsL_word (opName_noDig i)]
          show [a % 18446744073709551616] = [a]
          rw [Nat.mod_eq_of_lt (show a < 18446744073709551616 from ha)]
        · refine ⟨[a, b], ?_, rfl, rfl, rfl⟩
          have e : insL ⟨(i : Int), a, b⟩ = opName i ++ [a, b].flatMap fun n => 32 :: dgt n := by unfold insL; simp only [Int.toNat_natCast]; rw [hn2]; simp
          rw [h, e, numsL_word (opName_noDig i)]
          show [a % 18446744073709551616, b % 18446744073709551616] = [a, b]
          rw [Nat.mod_eq_of_lt (show a < 18446744073709551616 from ha), Nat.mod_eq_of_lt (show b < 18446744073709551616 from hb)]
      obtain ⟨ns, e1, e2, e3, e4⟩ := hns
      have hf : ((List.range 17).find? fun j => decide (opName j = wordL s) && decide (opArgs j = ((numsL s).length : Int))) = some i := by
        rw [hw, e1, e2, ← hn2]
        have hall : ∀ i, i < 17 → ((List.range 17).find? fun j => decide (opName j = opName i) && decide (opArgs j = opArgs i)) = some i := by decide
        exact hall i (by omega)
      rw [hf]
      simp only [e1, e3, e4]
      rw [if_pos h]
end Go.Proofs.YtmdpfikalekmlaaGreatDoor
/- Layer 20, plainly: the document's reading line by line is the program's. -/
namespace Go.Proofs.YtmdpfikalekmlaaGreatDoor
open Go.RowKit
set_option maxRecDepth 100000
set_option linter.unusedSimpArgs false
set_option linter.unusedVariables false

/-- The document's number of a part (it does not part avgs and cursors). -/
def atOf (n : Nat) : Nat := if n ≤ 1 then n else n - 1
def trR (st : Rs) : Rs := { st with part := atOf st.part }
/-- One more line, as the document takes it (part: its own numbers, 0 to 5). -/
def rLine (st : Rs) (s : List UInt8) : Option Rs :=
  if st.part = 0 then (rNums wdA s).map fun l => { st with avgs := l, part := 1 }
  else if wordL s = wdC then (if st.part = 1 then (rCur s).map fun c => { st with curs := st.curs ++ [c], part := 1 } else none)
  else if wordL s = wdN then (if st.part ≤ 2 then (rNear s).map fun n => { st with nears := st.nears ++ [n], part := 2 } else none)
  else if wordL s = wdE then (if st.part ≤ 2 ∧ s = wdE then some { st with all := true, part := 3 } else none)
  else if wordL s = wdD then (if st.part ≤ 3 then (match rNums wdD s with
    | some (x :: l) => some { st with drive := x :: l, part := 4 }
    | _ => none) else none)
  else (rIns s).map fun x => { st with code := st.code ++ [x], part := 5 }
theorem atOf_pos {n : Nat} (h : n ≠ 0) : atOf n ≠ 0 := by unfold atOf; split <;> omega
theorem rLine_eq (st : Rs) (s : List UInt8) : rLine (trR st) s = (lineR st s).map trR := by
  have hA : rNums wdA s = pNums wdA s := rNums_eq (by decide) (by unfold noDig; decide) s
  have hD : rNums wdD s = pNums wdD s := rNums_eq (by decide) (by unfold noDig; decide) s
  unfold rLine lineR
  by_cases h0 : st.part = 0
  · have e0 : (trR st).part = 0 := by unfold trR atOf; rw [h0]; rfl
    rw [if_pos e0, if_pos h0, hA, Option.map_map]
    rfl
  · have e0 : (trR st).part ≠ 0 := atOf_pos h0
    have hat : (trR st).part = atOf st.part := rfl
    rw [if_neg e0, if_neg h0]
    by_cases hC : wordL s = wdC
    · have n1 := pNear_no (s := s) (by rw [hC]; decide)
      have n2 := pNumsD_no (s := s) (by rw [hC]; decide)
      have n3 := pIns_no (s := s) (Or.inr (Or.inl hC))
      have n4 : s ≠ wdE := by rintro rfl; exact absurd hC (by decide)
      rw [if_pos hC, rCur_eq]
      by_cases hp : st.part ≤ 2
      · have hp1 : (trR st).part = 1 := by rw [hat]; unfold atOf; split <;> omega
        rw [if_pos hp1, if_pos hp]
        cases pCur s with
        | none => simp [n1, n2, n3, n4]
        | some c => rfl
      · have hp1 : ¬ (trR st).part = 1 := by rw [hat]; unfold atOf; split <;> omega
        rw [if_neg hp1, if_neg hp]
        simp [n1, n2, n3, n4]
    · rw [if_neg hC]
      have n0 := pCur_no hC
      by_cases hN : wordL s = wdN
      · have n2 := pNumsD_no (s := s) (by rw [hN]; decide)
        have n3 := pIns_no (s := s) (Or.inr (Or.inr (Or.inl hN)))
        have n4 : s ≠ wdE := by rintro rfl; exact absurd hN (by decide)
        rw [if_pos hN, rNear_eq, n0]
        by_cases hp : st.part ≤ 3
        · have hp1 : (trR st).part ≤ 2 := by rw [hat]; unfold atOf; split <;> omega
          rw [if_pos hp1, if_pos hp]
          cases pNear s with
          | none => simp [n2, n3, n4]
          | some c => simp; rfl
        · have hp1 : ¬ (trR st).part ≤ 2 := by rw [hat]; unfold atOf; split <;> omega
          rw [if_neg hp1, if_neg hp]
          simp [n2, n3, n4]
      · rw [if_neg hN]
        have n1 := pNear_no hN
        by_cases hE : wordL s = wdE
        · have n2 := pNumsD_no (s := s) (by rw [hE]; decide)
          have n3 := pIns_no (s := s) (Or.inr (Or.inr (Or.inr (Or.inl hE))))
          rw [if_pos hE, n0, n1]
          have hpp : (trR st).part ≤ 2 ↔ st.part < 4 := by rw [hat]; unfold atOf; split <;> omega
          by_cases hs : s = wdE
          · by_cases hp : st.part < 4
            · rw [if_pos ⟨hpp.2 hp, hs⟩]
              simp [hs, hp]; rfl
            · rw [if_neg (fun h => hp (hpp.1 h.1))]
              simp [hp, n2, n3]
          · rw [if_neg (fun h => hs h.2)]
            simp [hs, n2, n3]
        · have n4 : s ≠ wdE := by rintro rfl; exact hE (by decide)
          rw [if_neg hE, n0, n1]
          by_cases hDD : wordL s = wdD
          · have n3 := pIns_no (s := s) (Or.inr (Or.inr (Or.inr (Or.inr hDD))))
            rw [if_pos hDD, hD]
            have hpp : (trR st).part ≤ 3 ↔ st.part < 5 := by rw [hat]; unfold atOf; split <;> omega
            by_cases hp : st.part < 5
            · rw [if_pos (hpp.2 hp)]
              simp only [ite_self, n4, false_and, if_false, if_pos hp]
              cases pNums wdD s with
              | none => simp [n3]
              | some l =>
                cases l with
                | nil => simp [n3]
                | cons x l => rfl
            · rw [if_neg (fun h => hp (hpp.1 h))]
              simp [hp, n3, n4]
          · have n2 := pNumsD_no hDD
            rw [if_neg hDD, rIns_eq]
            simp only [ite_self, n4, false_and, if_false, n2, Option.map_map]
            rfl
def rLines : Rs → Nat → List (List UInt8) → Sum Rs Nat
  | st, _, [] => .inl st
  | st, k, s :: r => match rLine st s with
    | none => .inr (k + 1)
    | some st' => rLines st' (k + 1) r
def trS : Sum Rs Nat → Sum Rs Nat
  | .inl st => .inl (trR st)
  | .inr n => .inr n
theorem rLines_eq (st : Rs) (k : Nat) (ls : List (List UInt8)) : rLines (trR st) k ls = trS (linesR st k ls) := by
  induction ls generalizing st k with
  | nil => rfl
  | cons s r ih =>
    rw [rLines, linesR, rLine_eq]
    cases lineR st s with
    | none => rfl
    | some st1 => exact ih st1 (k + 1)
/-- Where the reader fails: a line that there is, or the one behind the last. -/
theorem linesR_le {st : Rs} {k n : Nat} {ls : List (List UInt8)} (h : linesR st k ls = .inr n) : k < n ∧ n ≤ k + ls.length := by
  induction ls generalizing st k with
  | nil => rw [linesR] at h; cases h
  | cons s r ih =>
    rw [linesR] at h
    cases hl : lineR st s with
    | none => rw [hl] at h; injection h with h; rw [List.length_cons]; omega
    | some st1 =>
      rw [hl] at h
      have := ih h
      rw [List.length_cons]; omega
theorem readP_le {t : List UInt8} {n : Nat} (h : readP t = .inr n) : 1 ≤ n ∧ n ≤ (splitS 10 t).length := by
  unfold readP at h
  simp only [] at h
  have hne := splitS_ne 10 t
  have hpos := List.length_pos_iff.2 hne
  split at h
  · rename_i m hm
    injection h with h; subst h
    have := linesR_le hm
    rw [List.length_dropLast] at this
    omega
  · split at h
    · injection h with h; subst h; omega
    · cases h
theorem count_split (s : UInt8) (t : List UInt8) : (splitS s t).length = t.count s + 1 := by
  induction t with
  | nil => rfl
  | cons c r ih =>
    unfold splitS
    split
    · rename_i hc; subst hc; rw [List.length_cons, ih, List.count_cons_self]
    · rename_i hc
      cases h : splitS s r with
      | nil => exact absurd h (splitS_ne s r)
      | cons x xs =>
        rw [h] at ih
        rw [List.count_cons_of_ne (fun e => hc e)]
        simpa using ih
end Go.Proofs.YtmdpfikalekmlaaGreatDoor
