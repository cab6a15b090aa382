/- Layer 4, plainly: the schema of a text, as the code finds it. -/
import Derived.Test.YtdkalcecmdadeaaDoorIxb
import Derived.Test.YtdkalcecmdadeaaDoorChk
namespace Go.Proofs.YtdkalcecmdadeaaDoor
open Go.RowKit

theorem cutL_length (c : UInt8) (l : List UInt8) : (cutL c l).1.length + (cutL c l).2.1.length + (if (cutL c l).2.2 then 1 else 0) = l.length := by
  induction l with
  | nil => rfl
  | cons b l ih =>
    rw [cutL]
    split
    · simp
    · simp only [List.length_cons]
      omega
def bText : List UInt8 := [116, 101, 120, 116]
def bKeyword : List UInt8 := [107, 101, 121, 119, 111, 114, 100]
def bNumber : List UInt8 := [110, 117, 109, 98, 101, 114]
def bFold : List UInt8 := [102, 111, 108, 100]
def bStop : List UInt8 := [115, 116, 111, 112]
def bStem : List UInt8 := [115, 116, 101, 109]
def kindOf (k : List UInt8) : Int := if k = bText then 1 else if k = bKeyword then 2 else if k = bNumber then 3 else 0
structure Fl where
  a : Bool
  b : Bool
  c : Bool
def stepF (s : List UInt8) (f : Fl) : Option Fl :=
  if s = bFold ∧ f.a = false ∧ f.b = false ∧ f.c = false then some ⟨true, f.b, f.c⟩
  else if s = bStop ∧ f.b = false ∧ f.c = false then some ⟨f.a, true, f.c⟩
  else if s = bStem ∧ f.c = false then some ⟨f.a, f.b, true⟩
  else none
/-- the steps of a chain, from one on -/
def stepsF : Nat → List UInt8 → Fl → Option Fl
  | 0, _, _ => none
  | n + 1, l, f => match stepF (cutL 44 l).1 f with
    | none => none
    | some g => if (cutL 44 l).2.2 then stepsF n (cutL 44 l).2.1 g else some g
def chainL (r : List UInt8 × List UInt8 × Bool) : Option Fl := if r.2.2 then stepsF (r.2.1.length + 1) r.2.1 ⟨false, false, false⟩ else some ⟨false, false, false⟩
/-- a field's text -/
def fieldL (one : List UInt8) : Option Fd := if (cutL 58 one).2.2 then (chainL (cutL 44 (cutL 58 one).2.1)).map fun f => ⟨str (cutL 58 one).1, kindOf (cutL 44 (cutL 58 one).2.1).1, f.a, f.b, f.c⟩ else none
/-- the fields from a place on -/
def rawF : Nat → List UInt8 → List Fd → Option (List Fd)
  | 0, _, _ => none
  | n + 1, l, acc => if acc.length = 16 then none else match fieldL (cutL 59 l).1 with
    | none => none
    | some f => if (cutL 59 l).2.2 then rawF n (cutL 59 l).2.1 (acc ++ [f]) else some (acc ++ [f])
def rawL (l : List UInt8) : Option (List Fd) := rawF (l.length + 1) l []
def parseL (l : List UInt8) : Option (List Fd) := (rawL l).bind fun fs => if chkL fs then some fs else none

theorem stepsF_fuel : ∀ (n m : Nat) (l : List UInt8) (f : Fl), l.length < n → l.length < m → stepsF n l f = stepsF m l f
  | 0, _, _, _, h, _ => by omega
  | _, 0, _, _, _, h => by omega
  | n + 1, m + 1, l, f, h1, h2 => by
    have := cutL_length 44 l
    rw [stepsF, stepsF]
    split
    · rfl
    · split
      · rename_i h; rw [if_pos h] at this
        exact stepsF_fuel n m _ _ (by omega) (by omega)
      · rfl
/-- Where the outer loop stands. -/
def PsAt (l : List UInt8) (rest : List UInt8) (more : Bool) (acc : List Fd) : Prop :=
  rest.length ≤ l.length ∧ acc.length ≤ 16 ∧ rawL l = if more then rawF (rest.length + 1) rest acc else some acc
theorem rawF_fuel : ∀ (n m : Nat) (l : List UInt8) (acc : List Fd), l.length < n → l.length < m → rawF n l acc = rawF m l acc
  | 0, _, _, _, h, _ => by omega
  | _, 0, _, _, _, h => by omega
  | n + 1, m + 1, l, acc, h1, h2 => by
    have := cutL_length 59 l
    rw [rawF, rawF]
    split
    · rfl
    · split
      · rfl
      · split
        · rename_i h; rw [if_pos h] at this
          exact rawF_fuel n m _ _ (by omega) (by omega)
        · rfl
theorem PsAt_start (l : List UInt8) : PsAt l l true [] := ⟨Nat.le_refl _, by simp, rfl⟩
theorem PsAt_full {l rest : List UInt8} {acc : List Fd} (h : PsAt l rest true acc) (h16 : acc.length = 16) : parseL l = none := by
  have e := h.2.2
  rw [if_pos rfl, rawF, if_pos h16] at e
  unfold parseL; rw [e]; rfl
theorem PsAt_bad {l rest : List UInt8} {acc : List Fd} (h : PsAt l rest true acc) (hf : fieldL (cutL 59 rest).1 = none) : parseL l = none := by
  have e := h.2.2
  rw [if_pos rfl, rawF] at e
  unfold parseL
  split at e
  · rw [e]; rfl
  · rw [hf] at e; rw [e]; rfl
theorem PsAt_step {l rest : List UInt8} {acc : List Fd} (h : PsAt l rest true acc) (h16 : acc.length ≠ 16) {f : Fd} (hf : fieldL (cutL 59 rest).1 = some f) : PsAt l (cutL 59 rest).2.1 (cutL 59 rest).2.2 (acc ++ [f]) := by
  obtain ⟨h1, h2, e⟩ := h
  have hc := cutL_length 59 rest
  refine ⟨by omega, by rw [List.length_append]; simp; omega, ?_⟩
  rw [if_pos rfl, rawF, if_neg h16, hf] at e
  rw [e]
  simp only []
  split
  · rename_i hm; rw [if_pos hm] at hc
    exact rawF_fuel _ _ _ _ (by omega) (by omega)
  · rfl
/-- Where the inner loop stands. -/
def StAt (whole : Option Fl) (chain : List UInt8) (steps : Bool) (f : Fl) : Prop := whole = if steps then stepsF (chain.length + 1) chain f else some f
theorem StAt_start (r : List UInt8 × List UInt8 × Bool) : StAt (chainL r) r.2.1 r.2.2 ⟨false, false, false⟩ := rfl
theorem StAt_bad {whole : Option Fl} {chain : List UInt8} {f : Fl} (h : StAt whole chain true f) (hs : stepF (cutL 44 chain).1 f = none) : whole = none := by
  unfold StAt at h
  rw [if_pos rfl, stepsF, hs] at h; exact h
theorem StAt_step {whole : Option Fl} {chain : List UInt8} {f g : Fl} (h : StAt whole chain true f) (hs : stepF (cutL 44 chain).1 f = some g) : StAt whole (cutL 44 chain).2.1 (cutL 44 chain).2.2 g := by
  have hc := cutL_length 44 chain
  unfold StAt at h ⊢
  rw [if_pos rfl, stepsF, hs] at h
  rw [h]
  simp only []
  split
  · rename_i hm; rw [if_pos hm] at hc
    exact stepsF_fuel _ _ _ _ (by omega) (by omega)
  · rfl
theorem field_none {one : List UInt8} (h : (cutL 58 one).2.2 = false) : fieldL one = none := by unfold fieldL; rw [h]; rfl
theorem field_bad {one : List UInt8} (h : (cutL 58 one).2.2 = true) (hc : chainL (cutL 44 (cutL 58 one).2.1) = none) : fieldL one = none := by
  unfold fieldL; rw [if_pos h, hc]; rfl
theorem field_some {one : List UInt8} (h : (cutL 58 one).2.2 = true) {f : Fl} (hc : chainL (cutL 44 (cutL 58 one).2.1) = some f) :
    fieldL one = some ⟨str (cutL 58 one).1, kindOf (cutL 44 (cutL 58 one).2.1).1, f.a, f.b, f.c⟩ := by
  unfold fieldL; rw [if_pos h, hc]; rfl
theorem parse_end {l rest : List UInt8} {acc : List Fd} (h : PsAt l rest false acc) : parseL l = if chkL acc then some acc else none := by
  have e := h.2.2
  unfold parseL; rw [e]; rfl
end Go.Proofs.YtdkalcecmdadeaaDoor
