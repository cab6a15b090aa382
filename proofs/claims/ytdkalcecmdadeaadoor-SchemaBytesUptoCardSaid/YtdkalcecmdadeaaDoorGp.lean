/- Layer 4, plainly: the reference's guess at a schema. -/
import Derived.Test.YtdkalcecmdadeaaDoorTp
namespace Go.Proofs.YtdkalcecmdadeaaDoor
open Go.RowKit
set_option maxRecDepth 100000

/-- The pieces between the bytes c; cur: what stands ahead in the first one. -/
def cutAcc (c : UInt8) (cur : List UInt8) : List UInt8 → List (List UInt8)
  | [] => [cur]
  | x :: t => if x = c then cur :: cutAcc c [] t else cutAcc c (cur ++ [x]) t
def cutAll (c : UInt8) (l : List UInt8) : List (List UInt8) := cutAcc c [] l
theorem cutAcc_no {c : UInt8} : ∀ {a cur : List UInt8}, c ∉ a → cutAcc c cur a = [cur ++ a]
  | [], cur, _ => by simp [cutAcc]
  | x :: a, cur, h => by
    rw [List.mem_cons, not_or] at h
    rw [cutAcc, if_neg (fun e => h.1 e.symm), cutAcc_no h.2]; simp
theorem cutAcc_app {c : UInt8} : ∀ {a b cur : List UInt8}, c ∉ a → cutAcc c cur (a ++ c :: b) = (cur ++ a) :: cutAcc c [] b
  | [], b, cur, _ => by simp [cutAcc]
  | x :: a, b, cur, h => by
    rw [List.mem_cons, not_or] at h
    rw [List.cons_append, cutAcc, if_neg (fun e => h.1 e.symm), cutAcc_app h.2]; simp
theorem cutAll_no {c : UInt8} {a : List UInt8} (h : c ∉ a) : cutAll c a = [a] := cutAcc_no h
theorem cutAll_app {c : UInt8} {a b : List UInt8} (h : c ∉ a) : cutAll c (a ++ c :: b) = a :: cutAll c b := cutAcc_app h
theorem cutAcc_ne (c : UInt8) : ∀ (a cur : List UInt8), cutAcc c cur a ≠ []
  | [], _ => by simp [cutAcc]
  | x :: a, cur => by
    rw [cutAcc]
    split
    · simp
    · exact cutAcc_ne c a _
theorem cutAcc_len (c : UInt8) : ∀ (a cur : List UInt8), (cutAcc c cur a).length ≤ a.length + 1 ∧ ∀ p ∈ cutAcc c cur a, p.length ≤ cur.length + a.length
  | [], cur => by simp [cutAcc]
  | x :: a, cur => by
    rw [cutAcc]
    split
    · have h := cutAcc_len c a []
      refine ⟨by simp only [List.length_cons]; omega, fun p hp => ?_⟩
      rw [List.mem_cons] at hp
      rcases hp with rfl | hp
      · simp
      · have := h.2 p hp
        simp only [List.length_nil, List.length_cons] at this ⊢
        omega
    · have h := cutAcc_len c a (cur ++ [x])
      refine ⟨by simp only [List.length_cons]; omega, fun p hp => ?_⟩
      have := h.2 p hp
      simp only [List.length_append, List.length_cons, List.length_nil] at this ⊢
      omega
def kindTo (h : List UInt8) : Nat → Int
  | 0 => 0
  | k + 1 => if h = kWord ((k : Int) + 1) then (k : Int) + 1 else kindTo h k
def halfKind (hs : List (List UInt8)) : Int := if hs.length = 2 then kindTo (hs.getD 1 []) 3 else 0
def guessF (p : List UInt8) : Fd :=
  let ws := cutAll 44 p
  let hs := cutAll 58 (ws.getD 0 [])
  ⟨str (hs.getD 0 []), halfKind hs, ws.contains bFold, ws.contains bStop, ws.contains bStem⟩
def guess (t : List UInt8) : List Fd := (cutAll 59 t).map guessF
def rparseL (t : List UInt8) : Option (List Fd) := if 1280 < t.length then none else if chkL (guess t) = true ∧ textL (guess t) = t then some (guess t) else none

theorem cutAll_rest : ∀ {l : List Fd}, l ≠ [] → GoodFds l → cutAll 59 (restL l) = l.map pieceL
  | [], h, _ => absurd rfl h
  | [f], _, hg => by rw [restL, cutAll_no (piece_no59 (hg f (by simp)).1)]; rfl
  | f :: g :: t, _, hg => by
    rw [restL, cutAll_app (piece_no59 (hg f (by simp)).1), cutAll_rest (l := g :: t) (by simp) (fun x hx => hg x (List.mem_cons_of_mem _ hx))]
    rfl
theorem kind_word {k : Int} (h : k = 1 ∨ k = 2 ∨ k = 3) : kindTo (kWord k) 3 = k := by
  rcases h with rfl | rfl | rfl <;> decide
def stepsB (a b c : Bool) : List (List UInt8) := (if a then [bFold] else []) ++ (if b then [bStop] else []) ++ (if c then [bStem] else [])
theorem steps_has : ∀ a b c : Bool, (stepsB a b c).contains bFold = a ∧ (stepsB a b c).contains bStop = b ∧ (stepsB a b c).contains bStem = c := by decide
theorem guess_piece {f : Fd} (h : ∀ c ∈ f.name.data.toList, nameCh c = true) (hk : f.kind = 1 ∨ f.kind = 2 ∨ f.kind = 3) : guessF (pieceL f) = f := by
  have n44 : (44 : UInt8) ∉ f.name.data.toList ++ 58 :: kWord f.kind := by
    simp only [List.mem_append, List.mem_cons, not_or]
    exact ⟨not_nameCh h (by decide), by decide, kWord_no.2.2⟩
  have n58 : (58 : UInt8) ∉ f.name.data.toList := not_nameCh h (by decide)
  have hm : (58 : UInt8) ∈ f.name.data.toList ++ 58 :: kWord f.kind := by simp
  have e1 : f.name.data.toList ++ 58 :: kWord f.kind ≠ bFold := fun e => by rw [e] at hm; revert hm; decide
  have e2 : f.name.data.toList ++ 58 :: kWord f.kind ≠ bStop := fun e => by rw [e] at hm; revert hm; decide
  have e3 : f.name.data.toList ++ 58 :: kWord f.kind ≠ bStem := fun e => by rw [e] at hm; revert hm; decide
  have hws : cutAll 44 (pieceL f) = (f.name.data.toList ++ 58 :: kWord f.kind) :: stepsOf f := by
    unfold pieceL flagsL stepsOf
    generalize f.name.data.toList ++ 58 :: kWord f.kind = W at n44
    cases f.fold <;> cases f.stop <;> cases f.stem
    all_goals
      simp only [if_true, if_false, Bool.false_eq_true, List.append_nil, List.nil_append, List.cons_append]
      first
      | exact cutAll_no n44
      | (rw [cutAll_app n44]; congr 1)
  have hhs : cutAll 58 (f.name.data.toList ++ 58 :: kWord f.kind) = [f.name.data.toList, kWord f.kind] := by
    rw [cutAll_app n58, cutAll_no kWord_no.1]
  unfold guessF
  rw [hws]
  simp only [List.getD_cons_zero]
  rw [hhs]
  have hkk : halfKind [f.name.data.toList, kWord f.kind] = f.kind := by
    unfold halfKind
    rw [if_pos (by simp)]
    exact kind_word hk
  rw [hkk]
  have hc : ∀ b : List UInt8, f.name.data.toList ++ 58 :: kWord f.kind ≠ b → ((f.name.data.toList ++ 58 :: kWord f.kind) :: stepsOf f).contains b = (stepsOf f).contains b := by
    intro b hb
    rw [List.contains_cons, beq_eq_false_iff_ne.2 (fun e => hb e.symm), Bool.false_or]
  rw [hc _ e1, hc _ e2, hc _ e3]
  obtain ⟨nm, k, a, b, c⟩ := f
  simp only [List.getD_cons_zero, str_self, Fd.mk.injEq, true_and]
  exact steps_has a b c
theorem guess_text {l : List Fd} (h : chkL l = true) : guess (textL l) = l := by
  have hg := good_of_chk h
  have h1 := (chk_len h).1
  unfold guess
  rw [textL_rest, cutAll_rest (by intro e; rw [e] at h1; simp at h1) hg, List.map_map]
  conv => rhs; rw [← List.map_id l]
  apply List.map_congr_left
  intro f hf
  exact guess_piece (hg f hf).1 (hg f hf).2
/-- The guess finds what the code finds. -/
theorem rparse_eq (t : List UInt8) : rparseL t = parseL t := by
  unfold rparseL
  cases h : parseL t with
  | none =>
    split
    · rfl
    · split
      · rename_i hc
        have := parse_text hc.1
        rw [hc.2, h] at this; cases this
      · rfl
  | some l =>
    obtain ⟨hc, ht⟩ := text_parse h
    have hl : t.length ≤ 1280 := by
      rw [← ht]
      have := textTo_length hc l.length (Nat.le_refl _)
      have := (chk_len hc).2
      unfold textL; omega
    have hgu : guess t = l := by rw [← ht]; exact guess_text hc
    rw [if_neg (by omega), hgu, if_pos ⟨hc, ht⟩]
end Go.Proofs.YtdkalcecmdadeaaDoor
