/- Merged for a claim by shake.py: Nl Qk Tq Tc Ti Tk Tl Mq Tp -/
import Derived.Deep.OwnRows
import Derived.Deep.RegionLaw
import Derived.Test.YtcomdkejpaoneaaDoorKg1
import Derived.Test.YtcomdkejpaoneaaDoorKg10
import Derived.Test.YtcomdkejpaoneaaDoorKg11
import Derived.Test.YtcomdkejpaoneaaDoorKg16
import Derived.Test.YtcomdkejpaoneaaDoorKg17
import Derived.Test.YtcomdkejpaoneaaDoorKg18
import Derived.Test.YtcomdkejpaoneaaDoorKg2
import Derived.Test.YtcomdkejpaoneaaDoorKg5
section
namespace Go.Proofs.YtcomdkejpaoneaaDoor
set_option linter.unusedSimpArgs false
set_option linter.unusedVariables false
def cntS : List Lt → Nat
  | [] => 0
  | t :: r => if t.kind = 18 ∨ t.kind = 19 then cntS r + 1 else 0
def sfxS : List Lt → Nat
  | [] => 0
  | t :: r => if t.kind = 21 ∨ t.kind = 20 then cntS r else cntS (t :: r)
structure NS where
  most : Nat
  nots : Nat
  depth : Nat
  weights : List Nat
def ns0 : NS := ⟨0, 0, 0, []⟩
def colonAt (l : List Lt) (i : Nat) : Bool := match l[i]? with
  | some t => decide (t.kind = 14)
  | none => false
def nestStep (l : List Lt) (ends : Nat → Nat) (i : Nat) (t : Lt) (s : NS) : Option (Nat × NS) :=
  if t.kind = 6 then some (i + 1, ⟨s.most, s.nots + 1, s.depth, s.weights⟩)
  else if t.kind = 8 then some (i + 1, ⟨s.most, 0, s.depth + (1 + s.nots + sfxS (l.drop (ends i + 1))), s.weights ++ [1 + s.nots + sfxS (l.drop (ends i + 1))]⟩)
  else if t.kind = 9 then match s.weights.getLast? with
    | none => none
    | some w => if w ≤ s.depth then some (i + 1, ⟨s.most, s.nots, s.depth - w, s.weights.dropLast⟩) else none
  else if t.kind = 10 ∨ t.kind = 12 then some (i + 5, ⟨max s.most (s.depth + s.nots + sfxS (l.drop (i + 5))), 0, s.depth, s.weights⟩)
  else if t.kind = 1 ∨ t.kind = 2 ∨ t.kind = 3 then
    if colonAt l (i + 1) = true then some (i + 2, s)
    else some (i + 1, ⟨max s.most (s.depth + s.nots + sfxS (l.drop (i + 1))), 0, s.depth, s.weights⟩)
  else some (i + 1, s)
inductive NestRun (l : List Lt) (ends : Nat → Nat) : Nat → NS → Nat → Prop
  | stop {i : Nat} {s : NS} : l.length ≤ i → NestRun l ends i s s.most
  | step {i i' : Nat} {t : Lt} {s s' : NS} {M : Nat} : l[i]? = some t → nestStep l ends i t s = some (i', s') → NestRun l ends i' s' M → NestRun l ends i s M
def upd (f : Nat → Nat) (i k : Nat) : Nat → Nat := fun j => if j = i then k else f j
def closeL : Nat → List Nat → (Nat → Nat) → List Lt → Option (List Nat × (Nat → Nat))
  | _, st, out, [] => some (st, out)
  | k, st, out, t :: r =>
    if t.kind = 8 then closeL (k + 1) (st ++ [k]) out r
    else if t.kind = 9 then match st.getLast? with
      | none => none
      | some i => closeL (k + 1) st.dropLast (upd out i k) r
    else closeL (k + 1) st out r
theorem closeL_append (k : Nat) (st : List Nat) (out : Nat → Nat) (a b : List Lt) : closeL k st out (a ++ b) = (closeL k st out a).bind fun x => closeL (k + a.length) x.1 x.2 b := by
  induction a generalizing k st out with
  | nil => rfl
  | cons t a ih =>
    rw [List.cons_append, closeL, closeL]
    have e : k + (t :: a).length = k + 1 + a.length := by rw [List.length_cons]; omega
    rw [e]
    split
    · exact ih _ _ _
    split
    · cases st.getLast? with
      | none => rfl
      | some i => exact ih _ _ _
    · exact ih _ _ _
theorem closeL_no {k : Nat} {st : List Nat} {out : Nat → Nat} {a : List Lt} (h : ∀ t ∈ a, t.kind ≠ 8 ∧ t.kind ≠ 9) : closeL k st out a = some (st, out) := by
  induction a generalizing k with
  | nil => rfl
  | cons t a ih =>
    have := h t List.mem_cons_self
    rw [closeL, if_neg this.1, if_neg this.2]
    exact ih fun x hx => h x (List.mem_cons_of_mem _ hx)
def loPt : Pt → Bool
  | .leaf => true | .group => true | .body => true | .atom => true | .piece => true | _ => false
def hdNo (post : List Lt) (ks : List Int) : Prop := ∀ t r, post = t :: r → t.kind ∉ ks
def Pc (p : Pt) (post : List Lt) : Prop := hdNo post (if loPt p = true then [14, 20, 21] else [14, 20, 21, 18, 19])
def noted : Pt → Bool
  | .maxes => true | .ands => true | .ors => true | .clause => true | .list => true | _ => false
def Sc (p : Pt) (s : NS) : Prop := noted p = true → s.nots = 0
def Rsn (n : Nat) (post : List Lt) (s : NS) : NS := ⟨max s.most (s.depth + s.nots + n + cntS post), 0, s.depth, s.weights⟩
def RunOk (p : Pt) (A : List Lt) (n k : Nat) (out : Nat → Nat) : Prop :=
  ∀ ends : Nat → Nat, (∀ i, k ≤ i → i < k + A.length → ends i = out i) → ∀ l pre post : List Lt, l = pre ++ (A ++ post) → pre.length = k → Pc p post → ∀ (s : NS) (M : Nat), Sc p s → NestRun l ends (k + A.length) (Rsn n post s) M → NestRun l ends k s M
def NOk (p : Pt) (A : List Lt) (n : Nat) : Prop :=
  ∀ (k : Nat) (st : List Nat) (out : Nat → Nat), ∃ out', closeL k st out A = some (st, out') ∧ (∀ i, i < k ∨ k + A.length ≤ i → out' i = out i) ∧ RunOk p A n k out'
theorem at_pre {l pre rest : List Lt} {k j : Nat} (hl : l = pre ++ rest) (hk : pre.length = k) : l[k + j]? = rest[j]? := by
  subst hl hk
  rw [List.getElem?_append_right (by omega), Nat.add_sub_cancel_left]
theorem drop_pre {l pre rest : List Lt} {k j : Nat} (hl : l = pre ++ rest) (hk : pre.length = k) : l.drop (k + j) = rest.drop j := by
  subst hl hk
  rw [List.drop_append, List.drop_of_length_le (by omega), Nat.add_sub_cancel_left, List.nil_append]
theorem sfx_cnt {post : List Lt} (h : hdNo post [14, 20, 21]) : sfxS post = cntS post := by
  cases post with
  | nil => rfl
  | cons t r =>
    have := h t r rfl
    simp only [List.mem_cons, List.not_mem_nil, or_false, not_or] at this
    rw [sfxS, if_neg (by omega)]
theorem cnt_hi {post : List Lt} (h : hdNo post [14, 20, 21, 18, 19]) : cntS post = 0 := by
  cases post with
  | nil => rfl
  | cons t r =>
    have := h t r rfl
    simp only [List.mem_cons, List.not_mem_nil, or_false, not_or] at this
    rw [cntS, if_neg (by omega)]
theorem hdNo.less {post : List Lt} {a b : List Int} (h : hdNo post a) (hb : ∀ x ∈ b, x ∈ a) : hdNo post b := fun t r e hm => h t r e (hb _ hm)
theorem hd_cons {t : Lt} {r : List Lt} {ks : List Int} (h : t.kind ∉ ks) : hdNo (t :: r) ks := fun t' r' e => by cases e; exact h
theorem colon_no {l pre post : List Lt} {i : Nat} (hl : l = pre ++ post) (hi : pre.length = i) (h : hdNo post [14]) : colonAt l i = false := by
  unfold colonAt
  have := at_pre (j := 0) hl hi
  rw [Nat.add_zero] at this
  rw [this]
  cases post with
  | nil => rfl
  | cons t r =>
    have := h t r rfl
    simpa using this
theorem nok_tok {t : Lt} {u : List Lt} (ht : t.kind = 1 ∨ t.kind = 2 ∨ t.kind = 3) (hu : u = [] ∨ ∃ x, u = [x] ∧ x.kind = 20) : NOk .leaf (t :: u) 0 := by
  intro k st out
  refine ⟨out, closeL_no ?_, fun _ _ => rfl, ?_⟩
  · intro x hx
    rcases List.mem_cons.1 hx with rfl | hx
    · omega
    · rcases hu with rfl | ⟨y, rfl, hy⟩
      · cases hx
      · rw [List.mem_singleton.1 hx]; omega
  · intro ends _ l pre post hl hk hp s M _ hM
    have h0 : l[k]? = some t := by
      have := at_pre (j := 0) hl hk
      simpa using this
    refine .step (i' := k + 1) (s' := Rsn 0 post s) h0 ?_ ?_
    · unfold nestStep
      rw [if_neg (by omega), if_neg (by omega), if_neg (by omega), if_neg (by omega), if_pos ht, if_neg ?_]
      · have e : sfxS (l.drop (k + 1)) = cntS post := by
          rw [drop_pre (j := 1) hl hk, List.cons_append, List.drop_one, List.tail_cons]
          rcases hu with rfl | ⟨x, rfl, hx⟩
          · exact sfx_cnt hp
          · rw [List.cons_append, List.nil_append, sfxS, if_pos (.inr hx)]
        rw [e]; rfl
      · have hl2 : l = (pre ++ [t]) ++ (u ++ post) := by rw [hl]; simp
        rw [colon_no hl2 (by rw [List.length_append, hk]; rfl) ?_]
        · decide
        · rcases hu with rfl | ⟨x, rfl, hx⟩
          · exact hdNo.less hp (by simp [loPt])
          · exact hd_cons (by simp [hx])
    · rcases hu with rfl | ⟨x, rfl, hx⟩
      · exact hM
      · refine .step (i' := k + 2) (s' := Rsn 0 post s) (t := x) ?_ ?_ hM
        · have := at_pre (j := 1) hl hk
          simpa using this
        · unfold nestStep
          rw [if_neg (by omega), if_neg (by omega), if_neg (by omega), if_neg (by omega), if_neg (by omega)]
theorem step_plain {l : List Lt} {ends : Nat → Nat} {i : Nat} {t : Lt} {s : NS} (h : t.kind = 0 ∨ t.kind = 4 ∨ t.kind = 5 ∨ t.kind = 15 ∨ t.kind = 16 ∨ t.kind = 17 ∨ t.kind = 18 ∨ t.kind = 19 ∨ t.kind = 20 ∨ t.kind = 21) : nestStep l ends i t s = some (i + 1, s) := by
  unfold nestStep
  rw [if_neg (by omega), if_neg (by omega), if_neg (by omega), if_neg (by omega), if_neg (by omega)]
theorem nok_span {a b c d e : Lt} (ha : a.kind = 10 ∨ a.kind = 12) (hb : sideT b = true) (hc : c.kind = 7) (hd : sideT d = true) (he : e.kind = 11 ∨ e.kind = 13) : NOk .leaf [a, b, c, d, e] 0 := by
  have hb8 : b.kind ≠ 8 ∧ b.kind ≠ 9 := by simp [sideT, starT] at hb; omega
  have hd8 : d.kind ≠ 8 ∧ d.kind ≠ 9 := by simp [sideT, starT] at hd; omega
  intro k st out
  refine ⟨out, closeL_no ?_, fun _ _ => rfl, ?_⟩
  · intro x hx
    simp only [List.mem_cons, List.not_mem_nil, or_false] at hx
    rcases hx with rfl | rfl | rfl | rfl | rfl
    · omega
    · exact hb8
    · omega
    · exact hd8
    · omega
  · intro ends _ l pre post hl hk hp s M _ hM
    have h0 : l[k]? = some a := by
      have := at_pre (j := 0) hl hk
      simpa using this
    refine .step (i' := k + 5) (s' := Rsn 0 post s) h0 ?_ hM
    unfold nestStep
    rw [if_neg (by omega), if_neg (by omega), if_neg (by omega), if_pos ha]
    have e2 : sfxS (l.drop (k + 5)) = cntS post := by
      rw [drop_pre (j := 5) hl hk]
      exact sfx_cnt hp
    rw [e2]; rfl
theorem nok_group {o c : Lt} {A x : List Lt} {n : Nat} (ho : o.kind = 8) (hc : c.kind = 9) (hx : x = [] ∨ ∃ y, x = [y] ∧ y.kind = 21) (ih : NOk .list A n) : NOk .group (o :: (A ++ (c :: x))) (n + 1) := by
  intro k st out
  obtain ⟨out1, h1, h2, h3⟩ := ih (k + 1) (st ++ [k]) out
  have hlen : (o :: (A ++ (c :: x))).length = A.length + 2 + x.length := by simp; omega
  have hx8 : ∀ t ∈ x, t.kind ≠ 8 ∧ t.kind ≠ 9 := by
    intro t ht
    rcases hx with rfl | ⟨y, rfl, hy⟩
    · cases ht
    · rw [List.mem_singleton.1 ht]; omega
  refine ⟨upd out1 k (k + 1 + A.length), ?_, ?_, ?_⟩
  · rw [closeL, if_pos ho, closeL_append, h1]
    show closeL (k + 1 + A.length) (st ++ [k]) out1 (c :: x) = _
    rw [closeL, if_neg (by omega), if_pos hc, List.getLast?_concat, List.dropLast_concat]
    exact closeL_no hx8
  · intro i hi
    rw [hlen] at hi
    unfold upd
    rw [if_neg (by omega)]
    exact h2 i (by omega)
  · intro ends hE l pre post hl hk hp s M _ hM
    rw [hlen] at hE hM
    have h0 : l[k]? = some o := by
      have := at_pre (j := 0) hl hk
      simpa using this
    have hEk : ends k = k + 1 + A.length := by
      rw [hE k (Nat.le_refl _) (by omega)]
      unfold upd; rw [if_pos rfl]
    have hsf : sfxS (l.drop (ends k + 1)) = cntS post := by
      rw [hEk, show k + 1 + A.length + 1 = k + (A.length + 2) from by omega, drop_pre hl hk]
      have e : (o :: (A ++ (c :: x)) ++ post).drop (A.length + 2) = x ++ post := by
        rw [show o :: (A ++ (c :: x)) ++ post = (o :: A ++ [c]) ++ (x ++ post) from by simp]
        rw [List.drop_append, List.drop_of_length_le (by simp), List.nil_append]
        rw [show A.length + 2 - (o :: A ++ [c]).length = 0 from by simp, List.drop_zero]
      rw [e]
      rcases hx with rfl | ⟨y, rfl, hy⟩
      · exact sfx_cnt hp
      · rw [List.cons_append, List.nil_append, sfxS, if_pos (.inl hy)]
    obtain ⟨w, hw⟩ : ∃ w, w = 1 + s.nots + cntS post := ⟨_, rfl⟩
    refine .step (i' := k + 1) (s' := ⟨s.most, 0, s.depth + w, s.weights ++ [w]⟩) h0 ?_ ?_
    · unfold nestStep
      rw [if_neg (by omega), if_pos ho, hsf, hw]
    refine h3 ends ?_ l (pre ++ [o]) (c :: (x ++ post)) ?_ ?_ ?_ _ _ (fun _ => rfl) ?_
    · intro i hi hi2
      rw [hE i (by omega) (by omega)]
      unfold upd; rw [if_neg (by omega)]
    · rw [hl]; simp
    · rw [List.length_append, hk]; rfl
    · exact hd_cons (by rw [hc]; decide)
    · refine .step (i' := k + 1 + A.length + 1) (s' := Rsn (n + 1) post s) (t := c) ?_ ?_ ?_
      · have := at_pre (j := A.length + 1) hl hk
        rw [show k + 1 + A.length = k + (A.length + 1) from by omega, this]
        simp
      · unfold nestStep
        rw [if_neg (by omega), if_neg (by omega), if_pos hc]
        show (match (s.weights ++ [w]).getLast? with | none => none | some w' => if w' ≤ s.depth + w then some (k + 1 + A.length + 1, NS.mk _ 0 (s.depth + w - w') (s.weights ++ [w]).dropLast) else none) = _
        rw [List.getLast?_concat, List.dropLast_concat]
        show (if w ≤ s.depth + w then _ else none) = _
        rw [if_pos (by omega), Nat.add_sub_cancel]
        have hc0 : cntS (c :: (x ++ post)) = 0 := by rw [cntS, if_neg (by omega)]
        unfold Rsn
        rw [hc0]
        simp only [Nat.add_zero]
        have e : max s.most (s.depth + w + n) = max s.most (s.depth + s.nots + (n + 1) + cntS post) := by rw [hw]; congr 1; omega
        rw [e]
      · rcases hx with rfl | ⟨y, rfl, hy⟩
        · rw [show k + 1 + A.length + 1 = k + (A.length + 2 + 0) from by omega]; exact hM
        · refine .step (i' := k + 1 + A.length + 1 + 1) (s' := Rsn (n + 1) post s) (t := y) ?_ (step_plain (by omega)) ?_
          · have := at_pre (j := A.length + 2) hl hk
            rw [show k + 1 + A.length + 1 = k + (A.length + 2) from by omega, this]
            simp
          · rw [show k + 1 + A.length + 1 + 1 = k + (A.length + 2 + 1) from by omega]; exact hM
theorem nok_two {p q r : Pt} {A x B : List Lt} {n m : Nat} (hpn : noted p = true ∨ loPt p = false) (hpl : loPt p = false) (hql : loPt q = false) (hrl : loPt r = false) (hpr : noted r = true) (hx : x = [] ∨ ∃ y, x = [y] ∧ (y.kind = 4 ∨ y.kind = 5 ∨ y.kind = 17)) (hB : ∃ t u, x ++ B = t :: u ∧ t.kind ∉ ([14, 20, 21, 18, 19] : List Int))
    (h1 : NOk p A n) (h2 : NOk q B m) : NOk r (A ++ (x ++ B)) (max n m) := by
  intro k st out
  obtain ⟨o1, a1, a2, a3⟩ := h1 k st out
  obtain ⟨o2, b1, b2, b3⟩ := h2 (k + A.length + x.length) st o1
  have hx8 : ∀ t ∈ x, t.kind ≠ 8 ∧ t.kind ≠ 9 := by
    intro t ht
    rcases hx with rfl | ⟨y, rfl, hy⟩
    · cases ht
    · rw [List.mem_singleton.1 ht]; omega
  have hlen : (A ++ (x ++ B)).length = A.length + (x.length + B.length) := by simp
  refine ⟨o2, ?_, ?_, ?_⟩
  · rw [closeL_append, a1]
    show closeL (k + A.length) st o1 (x ++ B) = _
    rw [closeL_append, closeL_no hx8]
    exact b1
  · intro i hi
    rw [hlen] at hi
    rw [b2 i (by omega), a2 i (by omega)]
  · intro ends hE l pre post hl hk hp s M hs hM
    rw [hlen] at hE hM
    have hs0 : s.nots = 0 := hs hpr
    obtain ⟨t, u, htu, htk⟩ := hB
    have hc0 : cntS ((x ++ B) ++ post) = 0 := by
      rw [htu, List.cons_append]
      exact cnt_hi (hd_cons htk)
    have hpost : Pc q post := by
      unfold Pc at hp ⊢
      rw [hrl] at hp; rw [hql]; exact hp
    have hcp : cntS post = 0 := by
      unfold Pc at hp
      rw [hrl] at hp
      exact cnt_hi hp
    refine a3 ends ?_ l pre ((x ++ B) ++ post) (by rw [hl]; simp) hk ?_ s M (fun _ => hs0) ?_
    · intro i hi hi2
      rw [hE i hi (by omega), b2 i (by omega)]
    · unfold Pc
      rw [hpl, htu, List.cons_append]
      exact hd_cons htk
    have hfin : NestRun l ends (k + A.length + x.length) (Rsn n ((x ++ B) ++ post) s) M := by
      refine b3 ends ?_ l (pre ++ (A ++ x)) post (by rw [hl]; simp) (by simp [hk]; omega) hpost _ _ (fun _ => rfl) ?_
      · intro i hi hi2
        exact hE i (by omega) (by omega)
      · have e : Rsn m post (Rsn n ((x ++ B) ++ post) s) = Rsn (max n m) post s := by
          unfold Rsn
          rw [hc0, hcp, hs0]
          simp only [Nat.add_zero]
          congr 1
          omega
        rw [e, show k + A.length + x.length + B.length = k + (A.length + (x.length + B.length)) from by omega]
        exact hM
    rcases hx with rfl | ⟨y, rfl, hy⟩
    · exact hfin
    · refine .step (i' := k + A.length + 1) (t := y) ?_ (step_plain (by omega)) hfin
      have := at_pre (j := A.length) hl hk
      rw [this]; simp
theorem nok_more {p q : Pt} {A : List Lt} {n : Nat} (h : NOk p A n) (hp : ∀ post, Pc q post → Pc p post) (hs : ∀ s, Sc q s → Sc p s) : NOk q A n := by
  intro k st out
  obtain ⟨o1, a1, a2, a3⟩ := h k st out
  exact ⟨o1, a1, a2, fun ends hE l pre post hl hk hpc s M hsc hM => a3 ends hE l pre post hl hk (hp _ hpc) s M (hs _ hsc) hM⟩
theorem pc_lo {p q : Pt} (h : loPt p = loPt q) (post : List Lt) (hp : Pc q post) : Pc p post := by unfold Pc at hp ⊢; rw [h]; exact hp
theorem pc_hi {q : Pt} (h : loPt q = false) (p : Pt) (post : List Lt) (hp : Pc q post) : Pc p post := by
  unfold Pc at hp ⊢
  rw [h] at hp
  split
  · exact hp.less (by simp)
  · exact hp
theorem sc_any {p : Pt} (h : noted p = false) (s : NS) : Sc p s := fun e => by rw [h] at e; cases e
theorem nok_ahead {p q : Pt} {t : Lt} {A : List Lt} {n d : Nat} (h : NOk p A n) (h89 : t.kind ≠ 8 ∧ t.kind ≠ 9) (hp : ∀ post, Pc q post → Pc p post) (hsp : noted p = false)
    (hst : ∀ (l : List Lt) (ends : Nat → Nat) (i : Nat) (s : NS), Sc q s → ∃ s', nestStep l ends i t s = some (i + 1, s') ∧ ∀ post, Rsn n post s' = Rsn (n + d) post s) : NOk q (t :: A) (n + d) := by
  intro k st out
  obtain ⟨o1, a1, a2, a3⟩ := h (k + 1) st out
  refine ⟨o1, ?_, ?_, ?_⟩
  · rw [closeL, if_neg h89.1, if_neg h89.2]; exact a1
  · intro i hi
    rw [List.length_cons] at hi
    exact a2 i (by omega)
  · intro ends hE l pre post hl hk hpc s M hs hM
    rw [List.length_cons] at hE hM
    obtain ⟨s', e1, e2⟩ := hst l ends k s hs
    have h0 : l[k]? = some t := by
      have := at_pre (j := 0) hl hk
      simpa using this
    refine .step h0 e1 (a3 ends (fun i hi hi2 => hE i (by omega) (by omega)) l (pre ++ [t]) post (by rw [hl]; simp) (by simp [hk]) (hp _ hpc) s' M (sc_any hsp s') ?_)
    rw [e2, show k + 1 + A.length = k + (A.length + 1) from by omega]
    exact hM
theorem D.nok {p : Pt} {A : List Lt} {n : Nat} {v : Vl} (h : D p A n v) : NOk p A n := by
  induction h with
  | word ht => exact nok_tok (.inl ht) (.inl rfl)
  | edits ht hu _ => exact nok_tok (.inl ht) (.inr ⟨_, rfl, hu⟩)
  | pat ht => exact nok_tok (.inr (.inl ht)) (.inl rfl)
  | quo ht => exact nok_tok (.inr (.inr ht)) (.inl rfl)
  | slop ht hu _ => exact nok_tok (.inr (.inr ht)) (.inr ⟨_, rfl, hu⟩)
  | span ha hb hc hd he => exact nok_span ha hb hc hd he
  | group ho hA hc ih => exact nok_group ho hc (.inl rfl) ih
  | least ho hA hc hl ih => exact nok_group ho hc (.inr ⟨_, rfl, hl⟩) ih
  | leafB _ ih => exact nok_more ih (pc_lo rfl) (fun s _ => sc_any rfl s)
  | groupB _ ih => exact nok_more ih (pc_lo rfl) (fun s _ => sc_any rfl s)
  | bodyA _ ih => exact nok_more ih (pc_lo rfl) (fun s _ => sc_any rfl s)
  | @field w c A n v hw hc hA ih =>
    intro k st out
    obtain ⟨o1, a1, a2, a3⟩ := ih (k + 2) st out
    refine ⟨o1, ?_, ?_, ?_⟩
    · rw [closeL, if_neg (by omega), if_neg (by omega), closeL, if_neg (by omega), if_neg (by omega)]; exact a1
    · intro i hi
      simp only [List.length_cons] at hi
      exact a2 i (by omega)
    · intro ends hE l pre post hl hk hpc s M hs hM
      simp only [List.length_cons] at hE hM
      have h0 : l[k]? = some w := by
        have := at_pre (j := 0) hl hk
        simpa using this
      have h1 : l[k + 1]? = some c := by
        have := at_pre (j := 1) hl hk
        simpa using this
      refine .step (i' := k + 2) (s' := s) h0 ?_ (a3 ends (fun i hi hi2 => hE i (by omega) (by omega)) l (pre ++ [w, c]) post (by rw [hl]; simp) (by simp [hk]) (pc_lo rfl _ hpc) s M (sc_any rfl s) ?_)
      · unfold nestStep
        rw [if_neg (by omega), if_neg (by omega), if_neg (by omega), if_neg (by omega), if_pos (.inl hw), if_pos (by unfold colonAt; rw [h1]; simp [hc])]
      · rw [show k + 2 + A.length = k + (A.length + 1 + 1) from by omega]; exact hM
  | @all a c t ha hc ht =>
    have ha2 : a.kind = 2 := by simp [starT] at ha; exact ha.1
    have ht2 : t.kind = 2 := by simp [starT] at ht; exact ht.1
    have ih : NOk .leaf [t] 0 := nok_tok (.inr (.inl ht2)) (.inl rfl)
    intro k st out
    obtain ⟨o1, a1, a2, a3⟩ := ih (k + 2) st out
    refine ⟨o1, ?_, ?_, ?_⟩
    · rw [closeL, if_neg (by omega), if_neg (by omega), closeL, if_neg (by omega), if_neg (by omega)]; exact a1
    · intro i hi
      simp only [List.length_cons, List.length_nil] at hi
      exact a2 i (by simp; omega)
    · intro ends hE l pre post hl hk hpc s M hs hM
      simp only [List.length_cons, List.length_nil] at hE hM
      have h0 : l[k]? = some a := by
        have := at_pre (j := 0) hl hk
        simpa using this
      have h1 : l[k + 1]? = some c := by
        have := at_pre (j := 1) hl hk
        simpa using this
      refine .step (i' := k + 2) (s' := s) h0 ?_ (a3 ends (fun i hi hi2 => hE i (by omega) (by simp at hi2; omega)) l (pre ++ [a, c]) post (by rw [hl]; simp) (by simp [hk]) (pc_lo rfl _ hpc) s M (sc_any rfl s) ?_)
      · unfold nestStep
        rw [if_neg (by omega), if_neg (by omega), if_neg (by omega), if_neg (by omega), if_pos (.inr (.inl ha2)), if_pos (by unfold colonAt; rw [h1]; simp [hc])]
      · exact hM
  | atomP _ ih => exact nok_more ih (pc_lo rfl) (fun s _ => sc_any rfl s)
  | @sfx b A n v hA hb ih =>
    intro k st out
    obtain ⟨o1, a1, a2, a3⟩ := ih k st out
    refine ⟨o1, ?_, ?_, ?_⟩
    · rw [closeL_append, a1]
      exact closeL_no (fun t ht => by rw [List.mem_singleton.1 ht]; omega)
    · intro i hi
      rw [List.length_append, List.length_singleton] at hi
      exact a2 i (by omega)
    · intro ends hE l pre post hl hk hpc s M hs hM
      rw [List.length_append, List.length_singleton] at hE hM
      refine a3 ends (fun i hi hi2 => hE i hi (by omega)) l pre (b :: post) (by rw [hl]; simp) hk (hd_cons (by simp [loPt]; omega)) s M (sc_any rfl s) ?_
      have e : Rsn n (b :: post) s = Rsn (n + 1) post s := by
        unfold Rsn
        rw [cntS, if_pos hb]
        congr 1
        omega
      rw [e]
      refine .step (i' := k + A.length + 1) (t := b) ?_ (step_plain (by omega)) hM
      have := at_pre (j := A.length) hl hk
      rw [this]; simp
  | pieceU _ ih => exact nok_more ih (pc_hi rfl _) (fun s _ => sc_any rfl s)
  | @not t A n v ht hA ih =>
    refine nok_ahead ih (by omega) (pc_lo rfl) rfl fun l ends i s _ => ⟨⟨s.most, s.nots + 1, s.depth, s.weights⟩, ?_, fun post => ?_⟩
    · unfold nestStep; rw [if_pos ht]
    · unfold Rsn
      congr 1
      show max s.most (s.depth + (s.nots + 1) + n + cntS post) = _
      congr 1; omega
  | maxU _ ih => exact nok_more ih (pc_hi rfl _) (fun s _ => sc_any rfl s)
  | bar hA hb hB ih1 ih2 => exact nok_two (q := .unary) (x := [_]) (.inl rfl) rfl rfl rfl rfl (.inr ⟨_, rfl, by omega⟩) ⟨_, _, rfl, by rw [hb]; decide⟩ ih1 ih2
  | andM _ ih => exact nok_more ih (pc_hi rfl _) (fun s h => h)
  | and hA hb hB ih1 ih2 => exact nok_two (q := .maxes) (x := [_]) (.inl rfl) rfl rfl rfl rfl (.inr ⟨_, rfl, by omega⟩) ⟨_, _, rfl, by rw [hb]; decide⟩ ih1 ih2
  | orA _ ih => exact nok_more ih (pc_hi rfl _) (fun s h => h)
  | or hA hb hB ih1 ih2 => exact nok_two (q := .ands) (x := [_]) (.inl rfl) rfl rfl rfl rfl (.inr ⟨_, rfl, by omega⟩) ⟨_, _, rfl, by rw [hb]; decide⟩ ih1 ih2
  | clauseO _ ih => exact nok_more ih (pc_hi rfl _) (fun s h => h)
  | @sign s A n v hs hA ih =>
    exact nok_ahead (d := 0) ih (by omega) (pc_lo rfl) rfl fun l ends i s0 _ => ⟨s0, step_plain (by omega), fun post => rfl⟩
  | one _ ih => exact nok_more ih (pc_hi rfl _) (fun s h => h)
  | @more A B n m v u hA hB ih1 ih2 =>
    obtain ⟨⟨t, r, rfl, ht⟩, _⟩ := hB.okk
    exact nok_two (q := .clause) (x := []) (.inl rfl) rfl rfl rfl rfl (.inl rfl) ⟨t, r, rfl, by unfold begT at ht; simp; omega⟩ ih1 ih2
theorem D.nest {A : List Lt} {e : Lt} {n : Nat} {v : Vl} (h : D .list A n v) (he : e.kind = 0) (out : Nat → Nat) : ∃ out', closeL 0 [] out (A ++ [e]) = some ([], out') ∧ NestRun (A ++ [e]) out' 0 ns0 n := by
  obtain ⟨o1, a1, a2, a3⟩ := h.nok 0 [] out
  refine ⟨o1, ?_, ?_⟩
  · rw [closeL_append, a1]
    exact closeL_no (fun t ht => by rw [List.mem_singleton.1 ht]; omega)
  · refine a3 o1 (fun _ _ _ => rfl) (A ++ [e]) [] [e] (by simp) rfl (hd_cons (by rw [he]; decide)) ns0 n (fun _ => rfl) ?_
    have e1 : Rsn n [e] ns0 = ⟨n, 0, 0, []⟩ := by
      unfold Rsn ns0
      rw [cntS, if_neg (by omega)]
      simp
    rw [e1, Nat.zero_add]
    refine .step (i' := A.length + 1) (s' := ⟨n, 0, 0, []⟩) (t := e) (by simp) (step_plain (.inl he)) ?_
    exact .stop (by simp)
end Go.Proofs.YtcomdkejpaoneaaDoor
end
section
namespace Go.Proofs.YtcomdkejpaoneaaDoor
set_option linter.unusedSimpArgs false
set_option linter.unusedVariables false
theorem runI_inv {m m' : Mc} {pre l : List Lt} {i : Nat} (hi : Inv m pre) (h : runI m i l = .inl m') : runM m l = some m' := by
  induction l generalizing m pre i with
  | nil => rw [runI] at h; injection h with h; rw [h]; rfl
  | cons t l ih =>
    rw [runI] at h
    rw [runM]
    cases hs : stepM m t with
    | none => rw [hs] at h; cases h
    | some m2 => rw [hs] at h; exact ih (inv_step hi hs) h
end Go.Proofs.YtcomdkejpaoneaaDoor
end
section
namespace Go.Proofs.YtcomdkejpaoneaaDoor
set_option linter.unusedSimpArgs false
set_option linter.unusedVariables false
theorem scanF_end {f : Nat} {l : List UInt8} {i : Nat} {la : List Lx} (h : scanF f l i = (la, none)) : ∃ l0 e, la = l0 ++ [e] ∧ e.kind = 0 := by
  induction f generalizing l i la with
  | zero => simp [scanF] at h
  | succ f ih =>
    cases l with
    | nil =>
      simp only [scanF, Prod.mk.injEq] at h
      exact ⟨[], _, h.1.symm, rfl⟩
    | cons c t =>
      rw [scanF] at h
      split at h
      · exact ih h
      · split at h
        · cases h
        · rename_i k ht
          rcases hr : scanF f ((c :: t).drop k.len) (i + k.len) with ⟨u, _ | z⟩
          · rw [hr] at h
            simp only [ahead, List.singleton_append, Prod.mk.injEq, and_true] at h
            obtain ⟨l0, e, h2, h3⟩ := ih hr
            exact ⟨_ :: l0, e, by rw [← h, h2]; rfl, h3⟩
          · rw [hr] at h
            simp [ahead] at h
theorem stepM_end {m m' : Mc} {t : Lt} (h : stepM m t = some m') (ht : t.kind = 0) (hs : m.state ≤ 14) : m'.state = 14 := by
  have h2 := row_step t hs
  rw [h] at h2
  have hst : starT t = false := by simp [starT, ht]
  have hsd : sideT t = false := by simp [sideT, starT, ht]
  have he : editsT t = false := by simp [editsT, ht]
  have hp : slopT t = false := by simp [slopT, ht]
  have hbg : ∀ (r : Rw) f, rBegun r t f = none := fun r f => by unfold rBegun rAtom; simp [ht]
  have hc : ∀ r : Rw, rClause r t = none := fun r => by unfold rClause; rw [if_neg (by omega), hbg]
  have hspan : ∀ r : Rw, rSpan r t = none := fun r => by
    unfold rSpan
    rw [hsd]
    simp only [Bool.false_eq_true, if_false]
    split
    · rfl
    split
    · rw [if_neg (by omega)]
    · rw [if_neg (by omega)]
  have hbh : ∀ r r' : Rw, rBehind r t = some r' → r'.at_ = 14 := fun r r' h => by
    unfold rBehind at h
    rw [if_neg (by omega), if_neg (by omega), if_neg (by omega), if_pos ht] at h
    split at h
    · injection h with h; rw [← h]; rfl
    · cases h
  show m'.row.at_ = 14
  have h3 : rStep m.row t = some m'.row := h2
  unfold rStep at h3
  by_cases h14 : m.row.at_ = 14
  · rw [if_pos h14] at h3; cases h3
  rw [if_neg h14] at h3
  by_cases h0 : m.row.at_ = 0
  · rw [if_pos h0, hc] at h3; cases h3
  rw [if_neg h0] at h3
  by_cases h1 : m.row.at_ = 1
  · rw [if_pos h1, hbg] at h3; cases h3
  rw [if_neg h1] at h3
  by_cases h2' : m.row.at_ = 2
  · rw [if_pos h2', hbg] at h3; cases h3
  rw [if_neg h2'] at h3
  by_cases h3' : m.row.at_ = 3
  · rw [if_pos h3', if_neg (by rw [hst]; decide)] at h3; cases h3
  rw [if_neg h3'] at h3
  by_cases h10 : 10 ≤ m.row.at_ ∧ m.row.at_ ≤ 13
  · rw [if_pos h10, hspan] at h3; cases h3
  rw [if_neg h10] at h3
  by_cases h4 : m.row.at_ = 4
  · rw [if_pos h4, if_neg (by omega), if_neg (by rw [he]; decide)] at h3; exact hbh _ _ h3
  rw [if_neg h4] at h3
  by_cases h6 : m.row.at_ = 6
  · rw [if_pos h6, if_neg (by omega)] at h3; exact hbh _ _ h3
  rw [if_neg h6] at h3
  by_cases h5 : m.row.at_ = 5
  · rw [if_pos h5, if_neg (by rw [he]; decide)] at h3; exact hbh _ _ h3
  rw [if_neg h5] at h3
  by_cases h7 : m.row.at_ = 7
  · rw [if_pos h7, if_neg (by rw [hp]; decide)] at h3; exact hbh _ _ h3
  rw [if_neg h7] at h3
  by_cases h8 : m.row.at_ = 8
  · rw [if_pos h8, if_neg (by omega)] at h3; exact hbh _ _ h3
  rw [if_neg h8] at h3
  exact hbh _ _ h3
theorem runI_last {m m' : Mc} {pre l : List Lt} {e : Lt} {i : Nat} (hi : Inv m pre) (he : e.kind = 0) (h : runI m i (l ++ [e]) = .inl m') : m'.state = 14 := by
  induction l generalizing m pre i with
  | nil =>
    rw [List.nil_append, runI] at h
    cases hs : stepM m e with
    | none => rw [hs] at h; cases h
    | some m2 =>
      rw [hs] at h
      simp only [runI] at h
      injection h with h
      rw [← h]
      exact stepM_end hs he hi.st
  | cons t l ih =>
    rw [List.cons_append, runI] at h
    cases hs : stepM m t with
    | none => rw [hs] at h; cases h
    | some m2 => rw [hs] at h; exact ih (inv_step hi hs) h
end Go.Proofs.YtcomdkejpaoneaaDoor
end
section
namespace Go.Proofs.YtcomdkejpaoneaaDoor
open Go.RowKit
set_option maxRecDepth 100000
set_option maxHeartbeats 4000000
set_option linter.unusedSimpArgs false
set_option linter.unusedVariables false
theorem RwRet.good {r : Option Rw} {r' : Rw} {w w' : World} {e : Ending} {x v0 : Value} {ro : List Bool} (hb : Below w.heap.size w w') (hr : r = some r') (he : e = .returned (.tuple #[x, .bool true])) (hx : RwO w' w.heap.size v0 ro x r') (hX : RwX x := by exact ⟨_, _, _, _, _, rfl⟩) : RwRet r v0 ro w e w' := by
  subst hr
  exact ⟨hb, x, he, hX, fun r2 h => by cases h; exact hx⟩
theorem RwRet.bad {r : Option Rw} {w w' : World} {e : Ending} {x v0 : Value} {ro : List Bool} (hb : Below w.heap.size w w') (hr : r = none) (he : e = .returned (.tuple #[x, .bool false])) (hX : RwX x := by exact ⟨_, _, _, _, _, rfl⟩) : RwRet r v0 ro w e w' := by
  subst hr
  exact ⟨hb, x, he, hX, fun r2 h => by cases h⟩
theorem RwV.of {w w' : World} {v : Value} {ro : List Bool} {B C : Nat} (hv : RdL rbS w B v ro) (hB : B ≤ w.heap.size) (hb : Below w.heap.size w w') (a : Nat) (s : Bool) : RwO w' C v ro (.agg #[.int .i64 (a : Int), .bool s, v]) ⟨a, s, ro⟩ := ⟨v, rfl, .inl ⟨rfl, rfl⟩⟩
end Go.Proofs.YtcomdkejpaoneaaDoor
end
section
namespace Go.Proofs.YtcomdkejpaoneaaDoor
open Go.RowKit
set_option maxRecDepth 100000
set_option maxHeartbeats 4000000
set_option linter.unusedSimpArgs false
set_option linter.unusedVariables false
theorem RdL.pop {α : Type} {S : Shape α} {w : World} {B : Nat} {A : Option Addr} {n cap : Nat} {l : List α} {x : α} (h : RdL S w B (.slice A n cap) (l ++ [x])) : RdL S w B (.slice A l.length cap) l := by
  obtain ⟨A', cap', e, h1, h2, h3, h4⟩ := h
  injection e with e1 e2 e3
  subst e1 e3
  rw [List.length_append, List.length_singleton] at h1 h3
  refine ⟨A, cap, rfl, by omega, h2, fun hn => ?_, h4⟩
  obtain ⟨a, e, hb, hc⟩ := h3 (by omega)
  refine ⟨a, e, hb, fun j u hu => hc j u ?_⟩
  rw [Shape.cells_snoc, List.getElem?_append_left (List.getElem?_eq_some_iff.1 hu).1]
  exact hu
end Go.Proofs.YtcomdkejpaoneaaDoor
end
section
namespace Go.Proofs.YtcomdkejpaoneaaDoor
open Go.RowKit
set_option maxRecDepth 100000
set_option maxHeartbeats 8000000
set_option linter.unusedSimpArgs false
set_option linter.unusedVariables false
def QkRet (r : Option Rw) (B : Nat) (w : World) (e : Ending) (w' : World) : Prop :=
  Below B w w' ∧ ∃ x, e = .returned (.tuple #[x, .bool r.isSome]) ∧ RwX x ∧ ∀ r', r = some r' → ∃ v, x = .agg #[.int .i64 (r'.at_ : Int), .bool r'.signed, v] ∧ OwnL rbS w' B v r'.open_
theorem QkRet.of {r : Option Rw} {v : Value} {ro : List Bool} {B : Nat} {w w' : World} {e : Ending} (h : RwRet r v ro w e w') (ho : OwnL rbS w B v ro) (hB : B ≤ w.heap.size) : QkRet r B w e w' := by
  obtain ⟨hb, x, he, hX, hx⟩ := h
  refine ⟨hb.mono hB, x, he, hX, fun r' hr => ?_⟩
  obtain ⟨v', hx', h⟩ := hx r' hr
  refine ⟨v', hx', ?_⟩
  rcases h with ⟨rfl, hl⟩ | h
  · rw [hl]; exact ho.below hb
  · exact h.more hB
theorem QkRet.bad {r : Option Rw} {B : Nat} {w w' : World} {x : Value} {bb : Bool} (hb : Below B w w') (hr : r = none) (hbb : bb = false) (hX : RwX x := by exact ⟨_, _, _, _, _, rfl⟩) : QkRet r B w (.returned (.tuple #[x, .bool bb])) w' := by
  subst hr hbb
  exact ⟨hb, x, rfl, hX, fun r2 h => by cases h⟩
theorem QkRet.good {r : Option Rw} {B : Nat} {w w' : World} {a : Nat} {s bb : Bool} {v : Value} {l : List Bool} (hb : Below B w w') (hr : r = some ⟨a, s, l⟩) (hbb : bb = true) (ho : OwnL rbS w' B v l) (hX : RwX (.agg #[.int .i64 (a : Int), .bool s, v]) := by exact ⟨_, _, _, _, _, rfl⟩) : QkRet r B w (.returned (.tuple #[.agg #[.int .i64 (a : Int), .bool s, v], .bool bb])) w' := by
  subst hr hbb
  exact ⟨hb, _, rfl, hX, fun r2 h => by cases h; exact ⟨v, rfl, ho⟩⟩
end Go.Proofs.YtcomdkejpaoneaaDoor
end
section
namespace Go.Proofs.YtcomdkejpaoneaaDoor
open Go.RowKit
set_option maxRecDepth 100000
set_option maxHeartbeats 8000000
set_option linter.unusedSimpArgs false
set_option linter.unusedVariables false
structure RowAt (w : World) (g B : Nat) (v : Value) (m : Mc) : Prop where
  blk : Blk w g 99 #[.int .i64 (m.state : Int), .bool m.at_.signed, v]
  own : OwnL rbS w B v m.row.open_
  hg : g < B
  hB : B ≤ w.heap.size
theorem RowAt.alloc {w : World} {g B : Nat} {v : Value} {m : Mc} (h : RowAt w g B v m) (o : Obj) : RowAt (w.alloc o) g B v m := ⟨h.blk.alloc o, h.own.alloc o, h.hg, by rw [World.size_alloc]; have := h.hB; omega⟩
theorem RowAt.set_ {w : World} {g B : Nat} {v v2 : Value} {m m2 : Mc} (h : Blk w g 99 #[.int .i64 (m.state : Int), .bool m.at_.signed, v]) (ho : OwnL rbS w B v2 m2.row.open_) (hg : g < B) (hB : B ≤ w.heap.size) :
    RowAt (((w.setCell ⟨g, 0, none⟩ (.int .i64 (m2.state : Int))).setCell ⟨g, 1, none⟩ (.bool m2.at_.signed)).setCell ⟨g, 2, none⟩ v2) g B v2 m2 :=
  ⟨((h.set_ 0 _).set_ 1 _).set_ 2 _, ((ho.far (p := ⟨g, 0, none⟩) hg _).far (p := ⟨g, 1, none⟩) hg _).far (p := ⟨g, 2, none⟩) hg _, hg, by simp only [set_size]; exact hB⟩
end Go.Proofs.YtcomdkejpaoneaaDoor
end
section
namespace Go.Proofs.YtcomdkejpaoneaaDoor
open Go.RowKit
set_option maxRecDepth 100000
set_option maxHeartbeats 4000000
set_option linter.unusedSimpArgs false
set_option linter.unusedVariables false
def checkS (l : List UInt8) : Sum Nat Nat :=
  match scanL l with
  | (_, some p) => .inr p
  | (la, none) => match runI mc0 0 (la.map Lx.lt) with
    | .inl m => .inl m.at_.most
    | .inr i => .inr ((la[i]?.map Lx.at_).getD 0)
def ChkRet (v : Value) (r : Sum Nat Nat) (w : World) (e : Ending) (w' : World) : Prop :=
  Below w.heap.size w w' ∧ e = .returned (match r with
    | .inl n => .tuple #[.int .i64 (n : Int), .int .i64 0, .nilIface]
    | .inr p => .tuple #[.int .i64 0, .int .i64 (p : Int), v])
theorem scanF_count (f : Nat) (l : List UInt8) (i : Nat) : (scanF f l i).1.length ≤ l.length + 1 := by
  induction f generalizing l i with
  | zero => simp [scanF]
  | succ f ih =>
    cases l with
    | nil => simp [scanF]
    | cons c t =>
      rw [scanF, List.length_cons]
      split
      · have := ih t (i + 1); omega
      · rename_i hc
        split
        · simp
        · rename_i k ht
          have hk := tok_len ht (fun d hd => by cases hd; exact hc)
          rw [List.length_cons] at hk
          have hrec := ih ((c :: t).drop k.len) (i + k.len)
          rw [List.length_drop, List.length_cons] at hrec
          rcases hr : scanF f ((c :: t).drop k.len) (i + k.len) with ⟨u, _ | z⟩
          · rw [hr] at hrec
            simp only [ahead, List.singleton_append, List.length_cons] at hrec ⊢
            omega
          · simp [ahead]
theorem scanL_count (l : List UInt8) : (scanL l).1.length ≤ l.length + 1 := by unfold scanL; exact scanF_count _ _ _
theorem scheck_any (s : ByteArray) (w : World) (ea : List Addr) (ei : Nat) (hs : s.size ≤ 10000000) (hE : ClsEnv w) (hv : ErrAt w 0 (errI ea ei)) :
    Calls Tryd.prog 15 #[.string s] w (ChkRet (errI ea ei) (checkS s.data.toList) w) := by
  have hz1 := fun W => errI_nnil ea ei W
  have hz2 := fun op x y W => errI_guard0 ea ei op x y W
  generalize errI ea ei = v at *
  have HSC := Lib.hid (Scan_any s w v hs hE hv)
  have HV := Lib.hid hv
  have hcnt := scanL_count s.data.toList
  have hsl : s.data.toList.length = s.size := by rw [Array.length_toList]; rfl
  rw [hsl] at hcnt
  clear hE hv
  go_enter Tryd.func15, Tryd.ntmps15
  go_wp2_with fail
  refine HSC.out.mono ?_
  rintro e w2 ⟨hb2, hm⟩
  cases hr : scanL s.data.toList with
  | mk la r =>
    rw [hr] at hm hcnt
    simp only [] at hm hcnt
    have HV2 := Lib.hid (HV.out.below HV.out.2 hb2)
    have hv2 := HV2.out.1
    have hg2 := HV2.out.2
    cases r with
    | some p =>
      simp only [] at hm
      subst hm
      have HR := Lib.hid (show checkS s.data.toList = .inr p from by unfold checkS; rw [hr])
      have HB2 := Lib.hid hb2
      clear hr hb2
      go_wp2
      go_region
      go_wp2
      go_ret3
      refine ⟨?_, ?_⟩
      · first | exact HB2.out | exact HB2.out.drew
      · rw [HR.out]
        first | exact rfl | (show _ = _; simp [go_sem])
    | none =>
      simp only [] at hm
      obtain ⟨sl, rfl, ho⟩ := hm
      have HB2 := Lib.hid hb2
      have hrd : RdL ltS w2 w2.heap.size sl (la.map Lx.lt) := RdL.of_own ho.lt
      have HRD := Lib.hid hrd
      have HRN := Lib.hid (mrun_any sl (la.map Lx.lt) w2 hrd (by rw [List.length_map]; omega))
      have hsz2 : w.heap.size ≤ w2.heap.size := hb2.size
      have HQ := Lib.hid hr
      clear hr hb2 ho hrd
      go_wp2_with fail
      refine HRN.out.mono ?_
      rintro e w3 ⟨hb3, hm3⟩
      have HB3 := Lib.hid (HB2.out.trans (hb3.mono hsz2))
      have HV3 := Lib.hid (HV2.out.below HV2.out.2 hb3)
      have HRD3 := Lib.hid (HRD.out.below hb3)
      have hv3 := HV3.out.1
      have hg3 := HV3.out.2
      cases hrn : runI mc0 0 (la.map Lx.lt) with
      | inl m =>
        rw [hrn] at hm3
        obtain ⟨hi, mb, vb, rfl, hm4⟩ := hm3
        have HR := Lib.hid (show checkS s.data.toList = .inl m.at_.most from by unfold checkS; rw [HQ.out]; simp only []; rw [hrn])
        obtain ⟨-, ⟨f0, f1, f2, f3, f4, f5⟩, hlt⟩ := hm4.facts
        obtain ⟨⟨c0, c1, c2, c3, c4, c5⟩, -, -⟩ := hm4.facts
        clear hi hm4 hrn hb3
        go_wp2
        go_ret3
        exact ⟨HB3.out, by rw [HR.out]; first | exact rfl | (show _ = _; simp [go_sem])⟩
      | inr i =>
        rw [hrn] at hm3
        obtain ⟨hi, mb, rfl⟩ := hm3
        rw [List.length_map] at hi
        have HR := Lib.hid (show checkS s.data.toList = .inr (la[i].at_) from by unfold checkS; rw [HQ.out]; simp only []; rw [hrn]; simp only []; rw [List.getElem?_eq_getElem hi]; rfl)
        obtain ⟨A, cap, rfl, h1, h2⟩ := HRD3.out.open_
        obtain ⟨a, rfl, hab, q0, q1, q2, q3, q4⟩ := at_lt HRD3.out (k := i) (by rw [List.length_map]; exact hi)
        have q3' : w3.cell? ⟨(a.add (i * 5)).block, (a.add (i * 5)).off + 3, none⟩ = some (.int .i64 ((la[i].at_ : Nat) : Int)) := by
          rw [q3, List.getElem_map]; rfl
        have hi2 : i < (la.map Lx.lt).length := by rw [List.length_map]; exact hi
        clear hrn hb3 q0 q1 q2 q3 q4
        go_wp2
        go_region
        go_wp2
        go_ret3
        refine ⟨?_, ?_⟩
        · first | exact HB3.out | exact HB3.out.drew
        · rw [HR.out]
          first | exact rfl | (show _ = _; simp [go_sem])
end Go.Proofs.YtcomdkejpaoneaaDoor
end
section
namespace Go.Proofs.YtcomdkejpaoneaaDoor
open Go.RowKit
set_option maxRecDepth 100000
set_option maxHeartbeats 8000000
set_option linter.unusedSimpArgs false
set_option linter.unusedVariables false
theorem scan_D {l : List UInt8} {la : List Lx} {m : Mc} (h : scanL l = (la, none)) (hr : runI mc0 0 (la.map Lx.lt) = .inl m) : ∃ A e v, la.map Lx.lt = A ++ [e] ∧ e.kind = 0 ∧ D .list A m.at_.most v := by
  obtain ⟨l0, e, rfl, he⟩ := scanF_end h
  have h1 := hr
  rw [List.map_append, List.map_cons, List.map_nil] at h1
  exact run_D (runI_inv inv0 hr) (runI_last inv0 he h1)
end Go.Proofs.YtcomdkejpaoneaaDoor
end
