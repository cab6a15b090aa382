/- Layer 4, plainly: a schema's text is read as the schema; what is read has that text. -/
import Derived.Test.YtdkalcecmdadeaaDoorPs
import Derived.Test.YtdkalcecmdadeaaDoorTxp
namespace Go.Proofs.YtdkalcecmdadeaaDoor
open Go.RowKit
set_option maxRecDepth 100000

theorem cutL_app {c : UInt8} : ∀ {a b : List UInt8}, c ∉ a → cutL c (a ++ c :: b) = (a, b, true)
  | [], b, _ => by rw [List.nil_append, cutL, if_pos rfl]
  | x :: a, b, h => by
    rw [List.mem_cons, not_or] at h
    rw [List.cons_append, cutL, if_neg (fun e => h.1 e.symm), cutL_app h.2]
theorem cutL_no {c : UInt8} : ∀ {a : List UInt8}, c ∉ a → cutL c a = (a, [], false)
  | [], _ => rfl
  | x :: a, h => by
    rw [List.mem_cons, not_or] at h
    rw [cutL, if_neg (fun e => h.1 e.symm), cutL_no h.2]
theorem cutL_eq (c : UInt8) : ∀ (l : List UInt8), l = (cutL c l).1 ++ (if (cutL c l).2.2 then c :: (cutL c l).2.1 else []) ∧ c ∉ (cutL c l).1
  | [] => by simp [cutL]
  | x :: l => by
    rw [cutL]
    split
    · rename_i h; subst h; simp
    · rename_i h
      obtain ⟨h1, h2⟩ := cutL_eq c l
      refine ⟨?_, ?_⟩
      · simp only [List.cons_append]
        rw [← h1]
      · rw [List.mem_cons, not_or]
        exact ⟨fun e => h e.symm, h2⟩
/-- The letters of a name. -/
def nameCh (c : UInt8) : Bool := decide ((97 ≤ c.toNat ∧ c.toNat ≤ 122) ∨ c.toNat = 95 ∨ (48 ≤ c.toNat ∧ c.toNat ≤ 57))
theorem gnTo_ch {l : List UInt8} {n : Nat} (h : gnTo l n = true) : ∀ k, k < n → goodCh k (l.getD k 0) = true := by
  induction n with
  | zero => intro k hk; omega
  | succ n ih =>
    rw [gnTo, Bool.and_eq_true] at h
    intro k hk
    by_cases e : k = n
    · subst e; exact h.2
    · exact ih h.1 k (by omega)
theorem goodName_ch {l : List UInt8} (h : goodNameL l = true) : ∀ c ∈ l, nameCh c = true := by
  unfold goodNameL at h
  simp only [Bool.and_eq_true] at h
  intro c hc
  obtain ⟨k, hk, rfl⟩ := List.getElem_of_mem hc
  have h2 := gnTo_ch h.2 k hk
  rw [List.getD_eq_getElem?_getD, List.getElem?_eq_getElem hk] at h2
  have h3 := of_decide_eq_true h2
  simp only [Option.getD_some] at h3
  exact decide_eq_true (by rcases h3 with h | ⟨_, h | h⟩ <;> simp [h])
theorem not_nameCh {l : List UInt8} {c : UInt8} (h : ∀ x ∈ l, nameCh x = true) (hc : nameCh c = false) : c ∉ l := fun hm => by rw [h c hm] at hc; cases hc
/-- The steps of a chain as Text writes them, one behind the other. -/
def stepsOf (f : Fd) : List (List UInt8) := (if f.fold then [bFold] else []) ++ (if f.stop then [bStop] else []) ++ (if f.stem then [bStem] else [])
def mkFd (nm : List UInt8) (k : Int) (g : Fl) : Fd := ⟨str nm, k, g.a, g.b, g.c⟩
theorem kindOf_word {k : Int} (h : k = 1 ∨ k = 2 ∨ k = 3) : kindOf (kWord k) = k := by
  rcases h with rfl | rfl | rfl <;> decide
theorem kWord_no {k : Int} : (58 : UInt8) ∉ kWord k ∧ (59 : UInt8) ∉ kWord k ∧ (44 : UInt8) ∉ kWord k := by
  unfold kWord
  split
  · decide
  · split <;> decide
theorem flags_no59 (f : Fd) : (59 : UInt8) ∉ flagsL f := by
  unfold flagsL
  cases f.fold <;> cases f.stop <;> cases f.stem <;> decide
theorem chain_flags (k : Int) (hk : k = 1 ∨ k = 2 ∨ k = 3) (a b c : Bool) : (cutL 44 (kWord k ++ flagsL ⟨⟨#[]⟩, k, a, b, c⟩)).1 = kWord k ∧ chainL (cutL 44 (kWord k ++ flagsL ⟨⟨#[]⟩, k, a, b, c⟩)) = some ⟨a, b, c⟩ := by
  rcases hk with rfl | rfl | rfl <;> cases a <;> cases b <;> cases c <;> exact ⟨by kernel_rfl, by kernel_rfl⟩
theorem piece_no59 {f : Fd} (h : ∀ c ∈ f.name.data.toList, nameCh c = true) : (59 : UInt8) ∉ pieceL f := by
  unfold pieceL
  simp only [List.mem_append, List.mem_cons, not_or]
  exact ⟨⟨not_nameCh h (by decide), by decide, kWord_no.2.1⟩, flags_no59 f⟩
theorem field_piece {f : Fd} (h : ∀ c ∈ f.name.data.toList, nameCh c = true) (hk : f.kind = 1 ∨ f.kind = 2 ∨ f.kind = 3) : fieldL (pieceL f) = some f := by
  have e : cutL 58 (pieceL f) = (f.name.data.toList, kWord f.kind ++ flagsL f, true) := by
    unfold pieceL
    rw [List.append_assoc, List.cons_append]
    exact cutL_app (not_nameCh h (by decide))
  unfold fieldL
  rw [e]
  obtain ⟨nm, k, a, b, c⟩ := f
  have := chain_flags k hk a b c
  have e2 : flagsL ⟨nm, k, a, b, c⟩ = flagsL ⟨⟨#[]⟩, k, a, b, c⟩ := rfl
  simp only [if_true]
  rw [e2, this.1, this.2, kindOf_word hk]
  simp [str_self]
/-- A text from field k on. -/
def restL (l : List Fd) : List UInt8 := match l with | [] => [] | [f] => pieceL f | f :: g :: t => pieceL f ++ 59 :: restL (g :: t)
def GoodFds (l : List Fd) : Prop := ∀ f ∈ l, (∀ c ∈ f.name.data.toList, nameCh c = true) ∧ (f.kind = 1 ∨ f.kind = 2 ∨ f.kind = 3)
theorem rawF_rest : ∀ (l acc : List Fd) (n : Nat), l ≠ [] → GoodFds l → acc.length + l.length ≤ 16 → (restL l).length < n → rawF n (restL l) acc = some (acc ++ l)
  | [], _, _, h, _, _, _ => absurd rfl h
  | _, _, 0, _, _, _, h => by omega
  | [f], acc, n + 1, _, hg, h16, hn => by
    have hf := hg f (by simp)
    simp only [restL]
    rw [rawF, if_neg (by simp only [List.length_singleton] at h16; omega), cutL_no (piece_no59 hf.1)]
    simp only []
    rw [field_piece hf.1 hf.2]
    rfl
  | f :: g :: t, acc, n + 1, _, hg, h16, hn => by
    have hf := hg f (by simp)
    simp only [restL] at hn ⊢
    rw [rawF, if_neg (by simp only [List.length_cons] at h16; omega), cutL_app (piece_no59 hf.1)]
    simp only []
    rw [field_piece hf.1 hf.2]
    simp only [if_true]
    rw [List.length_append, List.length_cons] at hn
    rw [rawF_rest (g :: t) (acc ++ [f]) n (by simp) (fun x hx => hg x (List.mem_cons_of_mem _ hx)) (by simp only [List.length_append, List.length_cons, List.length_nil] at h16 ⊢; omega) (by omega)]
    simp
theorem textTo_snoc (l : List Fd) (f : Fd) : textL (l ++ [f]) = textL l ++ (if l = [] then [] else [59]) ++ pieceL f := by
  unfold textL
  rw [List.length_append, List.length_singleton]
  have h : ∀ k, k ≤ l.length → textTo (l ++ [f]) k = textTo l k := by
    intro k
    induction k with
    | zero => intro _; rfl
    | succ k ih =>
      intro hk
      rw [textTo, textTo, ih (by omega)]
      congr 2
      rw [List.getD_eq_getElem?_getD, List.getD_eq_getElem?_getD, List.getElem?_append_left (by omega)]
  rw [textTo, h _ (Nat.le_refl _)]
  congr 1
  · congr 1
    cases l <;> simp
  · congr 1
    rw [List.getD_eq_getElem?_getD]; simp
theorem restL_snoc : ∀ (l : List Fd) (f : Fd), restL (l ++ [f]) = restL l ++ (if l = [] then [] else [59]) ++ pieceL f
  | [], f => by simp [restL]
  | [x], f => by simp [restL]
  | x :: y :: t, f => by
    have := restL_snoc (y :: t) f
    simp only [List.cons_append] at this ⊢
    rw [restL, this]
    simp [restL]
theorem textL_rest (l : List Fd) : textL l = restL l := by
  induction l using snoc_ind with
  | h0 => rfl
  | h1 l f ih => rw [textTo_snoc, restL_snoc, ih]
theorem good_of_chk {l : List Fd} (h : chkL l = true) : GoodFds l := by
  intro f hf
  obtain ⟨k, hk, rfl⟩ := List.getElem_of_mem hf
  obtain ⟨_, h1, h2⟩ := chk_name32 h hk
  exact ⟨goodName_ch h1, kind_three h2⟩
/-- There and back. -/
theorem parse_text {l : List Fd} (h : chkL l = true) : parseL (textL l) = some l := by
  obtain ⟨h1, h16⟩ := chk_len h
  have : rawL (textL l) = some l := by
    unfold rawL
    rw [textL_rest, rawF_rest l [] _ (by intro e; rw [e] at h1; simp at h1) (good_of_chk h) (by simpa using h16) (by omega)]
    simp
  unfold parseL
  rw [this]
  simp [h]
/-- What a field's text says is that field's text. -/
theorem stepF_text {s : List UInt8} {f g : Fl} (h : stepF s f = some g) : ∀ nm k, flagsL (mkFd nm k g) = flagsL (mkFd nm k f) ++ 44 :: s := by
  obtain ⟨a, b, c⟩ := f
  intro nm k
  unfold stepF at h
  split at h
  · rename_i h1; obtain ⟨rfl, rfl, rfl, rfl⟩ := h1; cases h; rfl
  · split at h
    · rename_i h1; obtain ⟨rfl, rfl, rfl⟩ := h1; cases h; cases a <;> rfl
    · split at h
      · rename_i h1; obtain ⟨rfl, rfl⟩ := h1; cases h; cases a <;> cases b <;> rfl
      · cases h
theorem stepsF_text : ∀ (n : Nat) (l : List UInt8) (f g : Fl), stepsF n l f = some g → ∀ nm k, flagsL (mkFd nm k g) = flagsL (mkFd nm k f) ++ 44 :: l
  | 0, _, _, _, h, _, _ => by cases h
  | n + 1, l, f, g, h, nm, k => by
    rw [stepsF] at h
    have hc := (cutL_eq 44 l).1
    split at h
    · cases h
    · rename_i g1 hs
      have h1 := stepF_text hs nm k
      split at h
      · rename_i hm
        rw [if_pos hm] at hc
        rw [stepsF_text n _ _ _ h nm k, h1]
        conv => rhs; rw [hc]
        simp
      · rename_i hm
        rw [if_neg hm, List.append_nil] at hc
        cases h
        rw [h1, ← hc]
theorem chain_text {r : List UInt8} {g : Fl} (h : chainL (cutL 44 r) = some g) (nm : List UInt8) (k : Int) : r = (cutL 44 r).1 ++ flagsL (mkFd nm k g) := by
  have hc := (cutL_eq 44 r).1
  unfold chainL at h
  split at h
  · rename_i hm
    rw [if_pos hm] at hc
    have := stepsF_text _ _ _ _ h nm k
    rw [this]
    exact hc
  · rename_i hm
    rw [if_neg hm, List.append_nil] at hc
    cases h
    have : flagsL (mkFd nm k ⟨false, false, false⟩) = [] := rfl
    rw [this, List.append_nil]; exact hc
theorem kindOf_back {s : List UInt8} (h : kindOf s = 1 ∨ kindOf s = 2 ∨ kindOf s = 3) : kWord (kindOf s) = s := by
  unfold kindOf at h ⊢
  split
  · rename_i e; rw [e]; rfl
  · rename_i h1
    rw [if_neg h1] at h
    split
    · rename_i e; rw [e]; rfl
    · rename_i h2
      rw [if_neg h2] at h
      split
      · rename_i e; rw [e]; rfl
      · rename_i h3
        rw [if_neg h3] at h; omega
theorem field_text {one : List UInt8} {f : Fd} (h : fieldL one = some f) (hk : f.kind = 1 ∨ f.kind = 2 ∨ f.kind = 3) : pieceL f = one := by
  unfold fieldL at h
  split at h
  · rename_i hm
    obtain ⟨g, hg, rfl⟩ := Option.map_eq_some_iff.1 h
    have hc := (cutL_eq 58 one).1
    rw [if_pos hm] at hc
    have h1 := chain_text hg (cutL 58 one).1 (kindOf (cutL 44 (cutL 58 one).2.1).1)
    unfold pieceL
    simp only [str_data] at hk ⊢
    rw [kindOf_back hk, List.append_assoc, List.cons_append]
    have e : flagsL ⟨str (cutL 58 one).1, kindOf (cutL 44 (cutL 58 one).2.1).1, g.a, g.b, g.c⟩ = flagsL (mkFd (cutL 58 one).1 (kindOf (cutL 44 (cutL 58 one).2.1).1) g) := rfl
    rw [e, ← h1]
    exact hc.symm
  · cases h
theorem rawF_text : ∀ (n : Nat) (l : List UInt8) (acc r : List Fd), rawF n l acc = some r → (∀ f ∈ r, f.kind = 1 ∨ f.kind = 2 ∨ f.kind = 3) → ∃ t, t ≠ [] ∧ r = acc ++ t ∧ restL t = l
  | 0, _, _, _, h, _ => by cases h
  | n + 1, l, acc, r, h, hk => by
    rw [rawF] at h
    split at h
    · cases h
    · split at h
      · cases h
      · rename_i f hf
        have hc := (cutL_eq 59 l).1
        split at h
        · rename_i hm
          rw [if_pos hm] at hc
          obtain ⟨t, ht, rfl, hr⟩ := rawF_text n _ _ _ h hk
          refine ⟨f :: t, by simp, by simp, ?_⟩
          have hp := field_text hf (hk f (by simp))
          cases t with
          | nil => exact absurd rfl ht
          | cons g t =>
            rw [restL, hp, hr]
            exact hc.symm
        · rename_i hm
          rw [if_neg hm, List.append_nil] at hc
          cases h
          refine ⟨[f], by simp, rfl, ?_⟩
          rw [restL, field_text hf (hk f (by simp))]
          exact hc.symm
theorem text_parse {t : List UInt8} {l : List Fd} (h : parseL t = some l) : chkL l = true ∧ textL l = t := by
  unfold parseL at h
  rw [Option.bind_eq_some_iff] at h
  obtain ⟨fs, h1, h2⟩ := h
  split at h2
  · rename_i hc
    cases h2
    refine ⟨hc, ?_⟩
    obtain ⟨u, _, e, hr⟩ := rawF_text _ _ _ _ h1 (fun f hf => (good_of_chk hc f hf).2)
    rw [List.nil_append] at e
    subst e
    rw [textL_rest]; exact hr
  · cases h2
end Go.Proofs.YtdkalcecmdadeaaDoor
