/- Layer 20, plainly: listings cut off and added to. -/
import Derived.Test.YtmdpfikalekmlaaDoorTw
import Derived.Test.YtmdpfikalekmlaaDoorSpl
namespace Go.Proofs.YtmdpfikalekmlaaDoor
open Go.RowKit
set_option maxRecDepth 100000
set_option linter.unusedSimpArgs false
set_option linter.unusedVariables false

/-! Pieces of a text cut off. -/
theorem splitS_take (c : UInt8) : ∀ (s : List UInt8) (at_ : Nat), (splitS c (s.take at_)).dropLast = (splitS c s).take ((s.take at_).count c)
  | [], at_ => by simp [splitS]
  | b :: s, 0 => by simp [splitS]
  | b :: s, at_ + 1 => by
    have ih := splitS_take c s at_
    rw [List.take_succ_cons]
    by_cases h : b = c
    · subst h
      rw [splitS, if_pos rfl, splitS, if_pos rfl, List.dropLast_cons_of_ne_nil (splitS_ne _ _), ih, List.count_cons_self, List.take_succ_cons]
    · obtain ⟨w, ws, h1, h2⟩ := splitS_head c b (s.take at_) h
      obtain ⟨w', ws', h1', h2'⟩ := splitS_head c b s h
      rw [h2, h2', List.count_cons_of_ne (fun e => h e)]
      rw [h1, h1'] at ih
      cases ws with
      | nil =>
        have hc : (s.take at_).count c = 0 := by
          have := splitS_length c (s.take at_)
          rw [h1] at this; simp at this; omega
        rw [hc]; simp
      | cons y ws =>
        have hc : (s.take at_).count c = ws.length + 1 := by
          have := splitS_length c (s.take at_)
          rw [h1] at this; simp at this; omega
        rw [List.dropLast_cons_of_ne_nil (by simp), hc, List.take_succ_cons] at ih
        rw [List.dropLast_cons_of_ne_nil (by simp), hc, List.take_succ_cons]
        injection ih with e1 e2
        rw [e1, e2]
theorem splitS_last (c : UInt8) : ∀ s : List UInt8, (splitS c s).getLast? = some [] ↔ (s = [] ∨ s.getLast? = some c)
  | [] => by simp [splitS]
  | b :: s => by
    have ih := splitS_last c s
    by_cases h : b = c
    · subst h
      rw [splitS, if_pos rfl]
      cases hs : splitS b s with
      | nil => exact absurd hs (splitS_ne _ _)
      | cons x xs =>
        rw [List.getLast?_cons_cons, ← hs, ih]
        cases s with
        | nil => simp
        | cons y ys => rw [List.getLast?_cons_cons]; simp
    · obtain ⟨w, ws, h1, h2⟩ := splitS_head c b s h
      rw [h2]
      rw [h1] at ih
      cases s with
      | nil =>
        simp [splitS] at h1
        obtain ⟨rfl, rfl⟩ := h1
        simp [h]
      | cons y ys =>
        rw [List.getLast?_cons_cons]
        cases ws with
        | nil =>
          simp only [List.getLast?_singleton, Option.some.injEq] at ih ⊢
          constructor
          · intro e; cases e
          · intro e
            rcases e with e | e
            · cases e
            · have := ih.2 (.inr e)
              have hl := splitS_length c (y :: ys)
              rw [h1] at hl
              have hm : c ∈ (y :: ys) := List.mem_of_getLast? e
              have hp := List.count_pos_iff.2 hm
              simp at hl; omega
        | cons z zs =>
          rw [List.getLast?_cons_cons] at ih ⊢
          rw [ih]; simp
/-! What has been read stays. -/
def Grew (a b : Rs) : Prop := a.avgs = b.avgs ∧ a.curs <+: b.curs ∧ a.nears <+: b.nears ∧ a.code <+: b.code ∧ (a.drive = [] ∨ a.drive = b.drive)
theorem Grew.refl (a : Rs) : Grew a a := ⟨rfl, List.prefix_refl _, List.prefix_refl _, List.prefix_refl _, .inr rfl⟩
theorem Grew.trans {a b c : Rs} (h : Grew a b) (k : Grew b c) : Grew a c := by
  refine ⟨h.1.trans k.1, h.2.1.trans k.2.1, h.2.2.1.trans k.2.2.1, h.2.2.2.1.trans k.2.2.2.1, ?_⟩
  rcases h.2.2.2.2 with e | e
  · exact .inl e
  · rcases k.2.2.2.2 with e2 | e2
    · exact .inl (e.trans e2)
    · exact .inr (e.trans e2)
theorem lineR_grew {st st' : Rs} {s : List UInt8} (hi : RInv st) (h : lineR st s = some st') : Grew st st' := by
  unfold lineR at h
  rw [if_neg (by have := hi.one; omega)] at h
  split at h
  · cases h; exact ⟨rfl, List.prefix_append _ _, List.prefix_refl _, List.prefix_refl _, .inr rfl⟩
  split at h
  · cases h; exact ⟨rfl, List.prefix_refl _, List.prefix_append _ _, List.prefix_refl _, .inr rfl⟩
  split at h
  · cases h; exact Grew.refl _
  split at h
  · rename_i x l hd
    cases h
    refine ⟨rfl, List.prefix_refl _, List.prefix_refl _, List.prefix_refl _, .inl (hi.drive ?_)⟩
    split at hd
    · assumption
    · cases hd
  · cases hp : pIns s with
    | none => rw [hp] at h; cases h
    | some x => rw [hp] at h; cases h; exact ⟨rfl, List.prefix_refl _, List.prefix_refl _, List.prefix_append _ _, .inr rfl⟩
theorem linesR_grew {st st' : Rs} {k : Nat} {ls : List (List UInt8)} (hi : RInv st) (h : linesR st k ls = .inl st') : Grew st st' := by
  induction ls generalizing st k with
  | nil => cases h; exact Grew.refl _
  | cons s r ih =>
    rw [linesR] at h
    cases h1 : lineR st s with
    | none => rw [h1] at h; cases h
    | some st1 =>
      rw [h1] at h
      exact (lineR_grew hi h1).trans (ih (lineR_back hi h1).1 h)
/-- The lines of a listing, read. -/
theorem text_lines {p : Pg} {t : List UInt8} (hs : SmallPg p) (h : textP p = some t) : ∃ (ls : List (List UInt8)) (st : Rs), t = unl ls ∧ splitS 10 t = ls ++ [[]] ∧ ls.length = t.count 10 ∧ linesR rs0 0 ls = .inl st ∧ RInv st ∧ 1 ≤ ls.length ∧ p.avgs = st.avgs ∧ p.curs = st.curs ∧ p.nears = st.nears ∧ p.drive = st.drive ∧ p.code = encI st.code := by
  obtain ⟨code, hd, hok, rfl⟩ := textP_get h
  obtain ⟨e1, e2, e3⟩ := encI_decI hd
  obtain ⟨q, hq⟩ := linesR_all hok (smallQ_of hs) (fun x hx => ⟨List.all_eq_true.1 e1 x hx, (e2 x hx).1, (e2 x hx).2⟩)
  have hsp := splitS_unl (linesL_ge p code)
  have hl : 1 ≤ (linesL p code).length := by unfold linesL headL; simp
  refine ⟨linesL p code, _, rfl, hsp, ?_, hq, ?_, hl, rfl, rfl, rfl, rfl, e3.symm⟩
  · have := splitS_length 10 (unl (linesL p code))
    rw [hsp, List.length_append, List.length_singleton] at this
    omega
  · cases hls : linesL p code with
    | nil => rw [hls] at hl; simp at hl
    | cons s r =>
      rw [hls, linesR] at hq
      cases h1 : lineR rs0 s with
      | none => rw [h1] at hq; cases hq
      | some st1 => rw [h1] at hq; exact (linesR_back (lineR_first h1).1 hq).1
theorem linesR_bad2 {ls : List (List UInt8)} {k n : Nat} (h : linesR rs0 0 (ls.take k) = .inr n) : linesR rs0 0 ls = .inr n := by
  rw [← List.take_append_drop k ls, linesR_append, h]
theorem linesR_pre {ls : List (List UInt8)} {st : Rs} (m : Nat) (h : linesR rs0 0 ls = .inl st) : ∃ st1, linesR rs0 0 (ls.take m) = .inl st1 ∧ (1 ≤ m → Grew st1 st) := by
  cases h1 : linesR rs0 0 (ls.take m) with
  | inr n => rw [linesR_bad2 h1] at h; cases h
  | inl st1 =>
    refine ⟨st1, rfl, fun hm => ?_⟩
    rw [← List.take_append_drop m ls, linesR_append, h1] at h
    cases hls : ls.take m with
    | nil =>
      cases ls with
      | nil => rw [hls] at h1; cases h1; simp [linesR] at h; subst h; exact Grew.refl _
      | cons a b => simp at hls; omega
    | cons s r =>
      have hi : RInv st1 := by
        rw [hls, linesR] at h1
        cases h2 : lineR rs0 s with
        | none => rw [h2] at h1; cases h1
        | some st2 => rw [h2] at h1; exact (linesR_back (lineR_first h2).1 h1).1
      exact linesR_grew hi h
/-- A program that another has grown from is as small. -/
theorem small_grew {p q : Pg} {a b : Rs} (hs : SmallPg p) (hg : Grew a b) (h1 : p.avgs = b.avgs) (h2 : p.curs = b.curs) (h3 : p.nears = b.nears) (h4 : p.drive = b.drive) (h5 : p.code = encI b.code)
    (k1 : q.avgs = a.avgs) (k2 : q.curs = a.curs) (k3 : q.nears = a.nears) (k4 : q.drive = a.drive) (k5 : q.code.length ≤ (encI a.code).length) : SmallPg q := by
  obtain ⟨g1, g2, g3, g4, g5⟩ := hg
  refine ⟨?_, ⟨fun c hc => ?_, ?_⟩, ⟨fun n hn => ?_, ?_⟩, ?_, ?_⟩
  · rw [k1, g1, ← h1]; exact hs.avgs
  · rw [k2] at hc; exact hs.curs.1 c (by rw [h2]; exact g2.subset hc)
  · rw [k2]; have := g2.length_le; rw [← h2] at this; exact Nat.le_trans this hs.curs.2
  · rw [k3] at hn; exact hs.nears.1 n (by rw [h3]; exact g3.subset hn)
  · rw [k3]; have := g3.length_le; rw [← h3] at this; exact Nat.le_trans this hs.nears.2
  · rcases g5 with e | e
    · rw [k4, e]; exact ⟨fun x hx => (by cases hx), Nat.zero_le _⟩
    · rw [k4, e, ← h4]; exact hs.drive
  · obtain ⟨r, hr⟩ := g4
    have e : encI b.code = encI a.code ++ encI r := by rw [← hr]; simp [encI]
    have := hs.code
    rw [h5, e, List.length_append] at this
    omega
/-- Cut off behind a line: it reads, and lists as itself. -/
theorem cut_good {p : Pg} {t : List UInt8} {at_ : Nat} (hs : SmallPg p) (h : textP p = some t) (h0 : (t.take at_).getLast? = some 10) : ∃ q, readP (t.take at_) = .inl q ∧ textP q = some (t.take at_) ∧ SmallPg q := by
  obtain ⟨ls, st, rfl, hsp, hc, hr, hi, hl, e1, e2, e3, e4, e5⟩ := text_lines hs h
  have hd := splitS_take 10 (unl ls) at_
  obtain ⟨m, hm⟩ : ∃ m, m = ((unl ls).take at_).count 10 := ⟨_, rfl⟩
  have hml : m ≤ ls.length := by rw [hm, hc]; exact (List.take_sublist _ _).count_le _
  have hm1 : 1 ≤ m := by rw [hm]; exact List.count_pos_iff.2 (List.mem_of_getLast? h0)
  rw [hsp, ← hm, List.take_append_of_le_length hml] at hd
  obtain ⟨st1, hr1, hg⟩ := linesR_pre m hr
  have hlast := (splitS_last 10 ((unl ls).take at_)).2 (.inr h0)
  have hlen : (splitS 10 ((unl ls).take at_)).length = m + 1 := by rw [splitS_length, hm]
  have hok : readP ((unl ls).take at_) = .inl ⟨st1.avgs, st1.curs, st1.nears, st1.all, st1.drive, if st1.code.all insOk = true then encI st1.code else []⟩ := by
    unfold readP
    simp only []
    rw [hd, hr1]
    simp only []
    rw [if_neg (by rw [hlast, hlen]; simp; omega)]
  refine ⟨_, hok, (textP_readP hok).1, small_grew hs (hg hm1) e1 e2 e3 e4 e5 rfl rfl rfl rfl ?_⟩
  show (if st1.code.all insOk = true then encI st1.code else []).length ≤ _
  split
  · exact Nat.le_refl _
  · simp
/-- Cut off elsewhere: it fails at the line that isn't ended. -/
theorem cut_bad {p : Pg} {t : List UInt8} {at_ : Nat} (hs : SmallPg p) (h : textP p = some t) (h0 : ¬ (t.take at_).getLast? = some 10) : readP (t.take at_) = .inr ((t.take at_).count 10 + 1) := by
  obtain ⟨ls, st, rfl, hsp, hc, hr, hi, hl, e1, e2, e3, e4, e5⟩ := text_lines hs h
  have hd := splitS_take 10 (unl ls) at_
  obtain ⟨m, hm⟩ : ∃ m, m = ((unl ls).take at_).count 10 := ⟨_, rfl⟩
  have hml : m ≤ ls.length := by rw [hm, hc]; exact (List.take_sublist _ _).count_le _
  rw [hsp, ← hm, List.take_append_of_le_length hml] at hd
  obtain ⟨st1, hr1, hg⟩ := linesR_pre m hr
  have hlast := splitS_last 10 ((unl ls).take at_)
  have hlen : (splitS 10 ((unl ls).take at_)).length = m + 1 := by rw [splitS_length, hm]
  unfold readP
  simp only []
  rw [hd, hr1]
  simp only []
  rw [if_pos, hlen, hm]
  by_cases he : (unl ls).take at_ = []
  · right
    rw [hlen, hm, he]; rfl
  · left
    intro hx
    rcases hlast.1 hx with e | e
    · exact he e
    · exact h0 e
/-! Lines that go on no listing. -/
def badLines : List (List UInt8) := [[97, 118, 103, 115, 32, 49], [104, 97, 108, 116], [], [101, 110, 100, 32], [100, 114, 105, 118, 101], [115, 99, 97, 108, 101, 32, 48, 49]]
theorem bad_facts : badLines.all (fun b => decide (pCur b = none) && decide (pNear b = none) && decide (b ≠ wdE) && (match pNums wdD b with | some (_ :: _) => false | _ => true) && (pIns b).isNone) = true := by kernel_rfl
theorem lineR_bad {st : Rs} {b : List UInt8} (hp : 1 ≤ st.part) (hb : b ∈ badLines) : lineR st b = none := by
  have h := List.all_eq_true.1 bad_facts b hb
  simp only [Bool.and_eq_true, decide_eq_true_eq] at h
  obtain ⟨⟨⟨⟨h1, h2⟩, h3⟩, h4⟩, h5⟩ := h
  have h5' : pIns b = none := by simpa using h5
  unfold lineR
  rw [if_neg (by omega), h1, h2, h5']
  simp only [ite_self]
  rw [if_neg (fun e => h3 e.1)]
  split
  · rename_i x l hx
    split at hx
    · rw [hx] at h4; cases h4
    · cases hx
  · rfl
theorem bad_no10 : ∀ b ∈ badLines, (10 : UInt8) ∉ b := by decide
/-- With a line that isn't one put behind it: it fails there. -/
theorem add_bad {p : Pg} {t b : List UInt8} (hs : SmallPg p) (h : textP p = some t) (hb : b ∈ badLines) : readP (t ++ (b ++ [10])) = .inr (t.count 10 + 1) := by
  obtain ⟨ls, st, rfl, hsp, hc, hr, hi, hl, e1, e2, e3, e4, e5⟩ := text_lines hs h
  have hno : ∀ x ∈ ls, (10 : UInt8) ∉ x := by
    intro x hx
    have := splitS_mem (s := 10) (l := unl ls) x (by rw [hsp]; exact List.mem_append_left _ hx)
    exact this
  have e : unl ls ++ (b ++ [10]) = unl (ls ++ [b]) := by rw [unl_append]; simp [unl]
  have hs2 : splitS 10 (unl (ls ++ [b])) = (ls ++ [b]) ++ [[]] := splitS_unl (fun x hx => by
    rcases List.mem_append.1 hx with hx | hx
    · exact hno x hx
    · rw [List.mem_singleton.1 hx]; exact bad_no10 b hb)
  rw [e]
  unfold readP
  simp only []
  rw [hs2, List.dropLast_concat, linesR_append, hr]
  simp only []
  rw [linesR, lineR_bad hi.one hb, ← hc, Nat.zero_add]
/-- The listing of a program that comes in. -/
theorem text_wt2 {p : Pg} {s : List UInt8} (hs : SmallPg p) (hw : WtPg p) (h : textP p = some s) : s.length ≤ 400000000 ∧ (splitS 10 s).length ≤ 10000000 := by
  obtain ⟨code, hd, hok, rfl⟩ := textP_get h
  have h1 := decI_len hd
  have h2 := (encI_decI hd).2.1
  have hc := hs.code
  have hn := (text_small hs hd).1
  refine ⟨?_, by rw [splitS_unl (linesL_ge p code), List.length_append, List.length_singleton]; omega⟩
  unfold linesL headL
  rw [unl_append, unl_append, unl_append, unl_append, unl_append]
  simp only [List.length_append]
  have a1 : (unl [lineL [97, 118, 103, 115] p.avgs]).length ≤ 5 + 21 * 1048576 := by
    have g := lineL_len [97, 118, 103, 115] p.avgs (fun y hy => (hs.avgs.1 y hy).2)
    have g2 := hs.avgs.2
    simp only [List.length_cons, List.length_nil] at g
    simp [unl]; omega
  have a2 := unl_map_le curL (fun c => c.term.length) 40 3 p.curs (fun c hc => curL_len2 (hs.curs.1 c hc).1.2)
  have a3 := unl_map_le nearL (fun n => n.cur.length + n.off.length) 40 42 p.nears (fun n hn => nearL_len2 (hs.nears.1 n hn).1.2 (fun y hy => ((hs.nears.1 n hn).2.1.1 y hy).2) (fun y hy => ((hs.nears.1 n hn).2.2.1 y hy).2))
  have a4 : (unl (if p.all = true then [[101, 118, 101, 114, 121]] else [])).length ≤ 6 := by split <;> simp [unl]
  have a5 : (unl (if p.drive ≠ [] then [lineL [100, 114, 105, 118, 101] p.drive] else [])).length ≤ 6 + 21 * 1048576 := by
    have g := lineL_len [100, 114, 105, 118, 101] p.drive (fun y hy => (hs.drive.1 y hy).2)
    have g2 := hs.drive.2
    simp only [List.length_cons, List.length_nil] at g
    split <;> simp [unl] <;> omega
  have a6 := unl_map_le insL (fun _ => 0) 48 0 code (fun i hi => by have := insL_len (h2 i hi).1 (h2 i hi).2; omega)
  have b1 := hw.terms
  have b2 := hw.offs
  have b3 := hs.curs.2
  have b4 := hs.nears.2
  omega
end Go.Proofs.YtmdpfikalekmlaaDoor
