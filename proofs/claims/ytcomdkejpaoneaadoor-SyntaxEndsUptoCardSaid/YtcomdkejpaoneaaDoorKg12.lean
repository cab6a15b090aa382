/- Merged for a claim by shake.py: Ch -/
import Derived.Test.YtcomdkejpaoneaaDoorKg11
section
namespace Go.Proofs.YtcomdkejpaoneaaDoor
set_option linter.unusedSimpArgs false
set_option linter.unusedVariables false
structure Cp where
  b : Lt
  A : List Lt
  v : Vl
def chToks (B0 : List Lt) (r : List Cp) : List Lt := B0 ++ r.flatMap fun x => x.b :: x.A
def chVal (wr : List (Int × Nd) → List (Int × Nd)) (v0 : Vl) (r : List Cp) : Vl := fun f => wr (v0 f) ++ r.flatMap fun x => wr (x.v f)
structure Chain (q : Pt) (k : Int) (wr : List (Int × Nd) → List (Int × Nd)) (A : List Lt) (v : Vl) (B0 : List Lt) (v0 : Vl) (r : List Cp) : Prop where
  toks : A = chToks B0 r
  val : v = chVal wr v0 r
  head : ∃ n, D q B0 n v0
  rest : ∀ x ∈ r, x.b.kind = k ∧ ∃ n, D q x.A n x.v
theorem Chain.one {q : Pt} {k : Int} {wr : List (Int × Nd) → List (Int × Nd)} {A : List Lt} {n : Nat} {v : Vl} (h : D q A n v) : Chain q k wr A (fun f => wr (v f)) A v [] :=
  ⟨by simp [chToks], by funext f; simp [chVal], ⟨n, h⟩, fun x hx => by cases hx⟩
theorem Chain.snoc {q : Pt} {k : Int} {wr : List (Int × Nd) → List (Int × Nd)} {A B B0 : List Lt} {n : Nat} {v v0 u : Vl} {r : List Cp} {b : Lt} (h : Chain q k wr A v B0 v0 r) (hb : b.kind = k) (hB : D q B n u) : Chain q k wr (A ++ b :: B) (fun f => v f ++ wr (u f)) B0 v0 (r ++ [⟨b, B, u⟩]) := by
  obtain ⟨h1, h2, h3, h4⟩ := h
  refine ⟨by rw [h1]; simp [chToks], by rw [h2]; funext f; simp [chVal], h3, fun x hx => ?_⟩
  rcases List.mem_append.1 hx with hx | hx
  · exact h4 x hx
  · rw [List.mem_singleton.1 hx]; exact ⟨hb, n, hB⟩
theorem D.chains {p : Pt} {A : List Lt} {n : Nat} {v : Vl} (h : D p A n v) :
    (p = .maxes → ∃ B0 v0 r, Chain .unary 17 id A v B0 v0 r) ∧ (p = .ands → ∃ B0 v0 r, Chain .maxes 4 (wrapN 12) A v B0 v0 r) ∧ (p = .ors → ∃ B0 v0 r, Chain .ands 5 (wrapN 10) A v B0 v0 r) := by
  induction h with
  | maxU h => exact ⟨fun _ => ⟨_, _, _, .one h⟩, fun e => (by cases e), fun e => (by cases e)⟩
  | bar h hb hB ih _ =>
    refine ⟨fun _ => ?_, fun e => (by cases e), fun e => (by cases e)⟩
    obtain ⟨B0, v0, r, hc⟩ := ih.1 rfl
    exact ⟨B0, v0, _, hc.snoc hb hB⟩
  | andM h => exact ⟨fun e => (by cases e), fun _ => ⟨_, _, _, .one h⟩, fun e => (by cases e)⟩
  | and h hb hB ih _ =>
    refine ⟨fun e => (by cases e), fun _ => ?_, fun e => (by cases e)⟩
    obtain ⟨B0, v0, r, hc⟩ := ih.2.1 rfl
    exact ⟨B0, v0, _, hc.snoc hb hB⟩
  | orA h => exact ⟨fun e => (by cases e), fun e => (by cases e), fun _ => ⟨_, _, _, .one h⟩⟩
  | or h hb hB ih _ =>
    refine ⟨fun e => (by cases e), fun e => (by cases e), fun _ => ?_⟩
    obtain ⟨B0, v0, r, hc⟩ := ih.2.2 rfl
    exact ⟨B0, v0, _, hc.snoc hb hB⟩
  | _ => exact ⟨fun e => (by cases e), fun e => (by cases e), fun e => (by cases e)⟩
theorem D.maxC {A : List Lt} {n : Nat} {v : Vl} (h : D .maxes A n v) : ∃ B0 v0 r, Chain .unary 17 id A v B0 v0 r := h.chains.1 rfl
theorem D.andC {A : List Lt} {n : Nat} {v : Vl} (h : D .ands A n v) : ∃ B0 v0 r, Chain .maxes 4 (wrapN 12) A v B0 v0 r := h.chains.2.1 rfl
theorem D.orC {A : List Lt} {n : Nat} {v : Vl} (h : D .ors A n v) : ∃ B0 v0 r, Chain .ands 5 (wrapN 10) A v B0 v0 r := h.chains.2.2 rfl
structure Cl where
  A : List Lt
  v : Vl
theorem D.listC {A : List Lt} {n : Nat} {v : Vl} (h : D .list A n v) : ∃ l : List Cl, l ≠ [] ∧ A = l.flatMap (·.A) ∧ (v = fun f => l.flatMap fun x => x.v f) ∧ ∀ x ∈ l, ∃ n, D .clause x.A n x.v := by
  generalize hp : Pt.list = p at h
  induction h with
  | @one A n v h =>
    refine ⟨[⟨A, v⟩], by simp, by simp, by simp, fun x hx => ?_⟩
    rw [List.mem_singleton.1 hx]; exact ⟨n, h⟩
  | @more A B n m v u hA hB ih _ =>
    obtain ⟨l, h0, h1, h2, h3⟩ := ih rfl
    refine ⟨l ++ [⟨B, u⟩], by simp, by rw [h1]; simp, by rw [h2]; simp, fun x hx => ?_⟩
    rcases List.mem_append.1 hx with hx | hx
    · exact h3 x hx
    · rw [List.mem_singleton.1 hx]; exact ⟨m, hB⟩
  | _ => cases hp
def brk (k : Int) : Int := if k = 8 ∨ k = 10 ∨ k = 12 then 1 else if k = 9 ∨ k = 11 ∨ k = 13 then -1 else 0
def cutI (m : Int) : Nat → Nat → Int → List Lt → List (Nat × Nat)
  | i, from_, _, [] => [(from_, i)]
  | i, from_, d, t :: r => if d + brk t.kind = 0 ∧ t.kind = m then (from_, i) :: cutI m (i + 1) (i + 1) (d + brk t.kind) r else cutI m (i + 1) from_ (d + brk t.kind) r
def begK (k : Int) : Bool := decide (k = 1) || decide (k = 2) || decide (k = 3) || decide (k = 6) || decide (k = 8) || decide (k = 10) || decide (k = 12) || decide (k = 15) || decide (k = 16)
def endK (k : Int) : Bool := decide (k = 1) || decide (k = 2) || decide (k = 3) || decide (k = 9) || decide (k = 11) || decide (k = 13) || decide (k = 18) || decide (k = 19) || decide (k = 20) || decide (k = 21)
def clI : Nat → Nat → Int → Int → List Lt → List (Nat × Nat)
  | i, from_, _, _, [] => [(from_, i)]
  | i, from_, d, p, t :: r => if from_ < i ∧ d = 0 ∧ begK t.kind = true ∧ endK p = true then (from_, i) :: clI (i + 1) i (d + brk t.kind) t.kind r else clI (i + 1) from_ (d + brk t.kind) t.kind r
def lastK (p : Int) (A : List Lt) : Int := match A.getLast? with
  | some t => t.kind
  | none => p
theorem lastK_snoc (p : Int) (A : List Lt) (t : Lt) : lastK p (A ++ [t]) = t.kind := by unfold lastK; rw [List.getLast?_concat]
theorem lastK_cons (p : Int) (A : List Lt) (t : Lt) : lastK p (t :: A) = lastK t.kind A := by
  unfold lastK
  cases A with
  | nil => rfl
  | cons x A =>
    rw [List.getLast?_cons_cons, List.getLast?_eq_some_getLast (by simp)]
theorem lastK_append (p : Int) (A B : List Lt) : lastK p (A ++ B) = lastK (lastK p A) B := by
  induction A generalizing p with
  | nil => rfl
  | cons t A ih => rw [List.cons_append, lastK_cons, lastK_cons, ih]
def okm (p : Pt) (m : Int) : Prop := match p with
  | .maxes => m ≠ 17
  | .ands => m = 5
  | .ors => False
  | .clause => False
  | .list => False
  | _ => True
def Calm (p : Pt) (A : List Lt) : Prop :=
  (∀ (m : Int) (i from_ : Nat) (d : Int) (r : List Lt), (m = 4 ∨ m = 5 ∨ m = 17) → 0 ≤ d → (d = 0 → okm p m) → cutI m i from_ d (A ++ r) = cutI m (i + A.length) from_ d r) ∧
  (∀ (i from_ : Nat) (d k : Int) (r : List Lt), 0 ≤ d → (d = 0 → (i = from_ ∨ endK k = false) ∧ p ≠ .list) → clI i from_ d k (A ++ r) = clI (i + A.length) from_ d (lastK k A) r) ∧ endK (lastK 0 A) = true ∧ ∀ k, lastK k A = lastK 0 A
theorem cutI_skip {m : Int} {i from_ : Nat} {d : Int} {t : Lt} {r : List Lt} (h : t.kind ≠ m ∨ d + brk t.kind ≠ 0) : cutI m i from_ d (t :: r) = cutI m (i + 1) from_ (d + brk t.kind) r := by
  rw [cutI, if_neg (fun h2 => by rcases h with h | h <;> simp_all)]
theorem clI_skip {i from_ : Nat} {d k : Int} {t : Lt} {r : List Lt} (h : ¬ from_ < i ∨ d ≠ 0 ∨ begK t.kind = false ∨ endK k = false) : clI i from_ d k (t :: r) = clI (i + 1) from_ (d + brk t.kind) t.kind r := by
  rw [clI, if_neg (fun h2 => by rcases h with h | h | h | h <;> simp_all)]
theorem brk_0 {k : Int} (h : k ≠ 8 ∧ k ≠ 9 ∧ k ≠ 10 ∧ k ≠ 11 ∧ k ≠ 12 ∧ k ≠ 13) : brk k = 0 := by unfold brk; rw [if_neg (by omega), if_neg (by omega)]
theorem lastK_ne {A : List Lt} (h : A ≠ []) (k : Int) : lastK k A = lastK 0 A := by
  cases A with
  | nil => exact absurd rfl h
  | cons t A => rw [lastK_cons, lastK_cons]
theorem calm_mk {p : Pt} {A : List Lt} (h0 : A ≠ []) (h1 : ∀ (m : Int) (i from_ : Nat) (d : Int) (r : List Lt), (m = 4 ∨ m = 5 ∨ m = 17) → 0 ≤ d → (d = 0 → okm p m) → cutI m i from_ d (A ++ r) = cutI m (i + A.length) from_ d r)
    (h2 : ∀ (i from_ : Nat) (d k : Int) (r : List Lt), 0 ≤ d → (d = 0 → (i = from_ ∨ endK k = false) ∧ p ≠ .list) → clI i from_ d k (A ++ r) = clI (i + A.length) from_ d (lastK k A) r) (h3 : endK (lastK 0 A) = true) : Calm p A := ⟨h1, h2, h3, lastK_ne h0⟩
theorem calm_tok {t : Lt} {u : List Lt} (ht : t.kind = 1 ∨ t.kind = 2 ∨ t.kind = 3) (hu : u = [] ∨ ∃ x, u = [x] ∧ x.kind = 20) : Calm .leaf (t :: u) := by
  have hb : brk t.kind = 0 := brk_0 (by omega)
  refine calm_mk (by simp) ?_ ?_ ?_
  · intro m i f d r hm hd _
    rw [List.cons_append, cutI_skip (.inl (by omega)), hb, Int.add_zero]
    rcases hu with rfl | ⟨x, rfl, hx⟩
    · rfl
    · rw [List.cons_append, cutI_skip (.inl (by omega)), brk_0 (by omega), Int.add_zero]; rfl
  · intro i f d k r hd hi
    have hsk : ¬ f < i ∨ d ≠ 0 ∨ begK t.kind = false ∨ endK k = false := by
      by_cases h : d = 0
      · rcases (hi h).1 with h | h
        · left; omega
        · right; right; right; exact h
      · right; left; exact h
    rw [List.cons_append, clI_skip hsk, hb, Int.add_zero]
    rcases hu with rfl | ⟨x, rfl, hx⟩
    · rfl
    · rw [List.cons_append, clI_skip (.inr (.inr (.inl (by unfold begK; rw [hx]; decide)))), brk_0 (by omega), Int.add_zero]; rfl
  · rcases hu with rfl | ⟨x, rfl, hx⟩
    · show endK t.kind = true
      rcases ht with h | h | h <;> rw [h] <;> decide
    · show endK x.kind = true
      rw [hx]; decide
theorem calm_up {p q : Pt} {A : List Lt} (h : Calm p A) (h1 : ∀ m : Int, okm q m → okm p m) (h2 : p ≠ .list) : Calm q A :=
  ⟨fun m i f d r hm hd h0 => h.1 m i f d r hm hd fun e => h1 m (h0 e), fun i f d k r hd h0 => h.2.1 i f d k r hd fun e => ⟨(h0 e).1, h2⟩, h.2.2⟩
theorem calm_ahead {p q : Pt} {t : Lt} {A : List Lt} (h : Calm p A) (hp : p ≠ .list) (hb : brk t.kind = 0) (hm : t.kind ≠ 4 ∧ t.kind ≠ 5 ∧ t.kind ≠ 17) (he : endK t.kind = false) (h1 : ∀ m : Int, okm q m → okm p m) : Calm q (t :: A) := by
  refine calm_mk (by simp) ?_ ?_ ?_
  · intro m i f d r hm2 hd h0
    rw [List.cons_append, cutI_skip (.inl (by omega)), hb, Int.add_zero, h.1 m (i + 1) f d r hm2 hd (fun e => h1 m (h0 e)), List.length_cons]
    congr 1; omega
  · intro i f d k r hd hi
    have hsk : ¬ f < i ∨ d ≠ 0 ∨ begK t.kind = false ∨ endK k = false := by
      by_cases h : d = 0
      · rcases (hi h).1 with h | h
        · left; omega
        · right; right; right; exact h
      · right; left; exact h
    rw [List.cons_append, clI_skip hsk, hb, Int.add_zero, h.2.1 (i + 1) f d t.kind r hd (fun e => ⟨.inr he, hp⟩), lastK_cons, List.length_cons]
    congr 1; omega
  · rw [lastK_cons, h.2.2.2]; exact h.2.2.1
theorem calm_sfx {p q : Pt} {t : Lt} {A : List Lt} (h : Calm p A) (hp : p ≠ .list) (ht : t.kind = 18 ∨ t.kind = 19 ∨ t.kind = 21) (h1 : ∀ m : Int, okm q m → okm p m) : Calm q (A ++ [t]) := by
  have hb : brk t.kind = 0 := brk_0 (by omega)
  refine calm_mk (by simp) ?_ ?_ ?_
  · intro m i f d r hm2 hd h0
    rw [List.append_assoc, h.1 m i f d ([t] ++ r) hm2 hd (fun e => h1 m (h0 e)), List.cons_append, cutI_skip (.inl (by omega)), hb, Int.add_zero, List.length_append]; rfl
  · intro i f d k r hd hi
    rw [List.append_assoc, h.2.1 i f d k ([t] ++ r) hd (fun e => ⟨(hi e).1, hp⟩), List.cons_append, clI_skip (.inr (.inr (.inl ?_))), hb, Int.add_zero, List.length_append, lastK_snoc]
    · rfl
    · unfold begK
      rcases ht with h | h | h <;> rw [h] <;> decide
  · rw [lastK_snoc]
    rcases ht with h | h | h <;> rw [h] <;> decide
theorem calm_two {p q r : Pt} {b : Lt} {A B : List Lt} (hA : Calm p A) (hB : Calm q B) (hp : p ≠ .list) (hq : q ≠ .list) (hb : b.kind = 4 ∨ b.kind = 5 ∨ b.kind = 17)
    (h1 : ∀ m : Int, okm r m → okm p m ∧ okm q m ∧ b.kind ≠ m) : Calm r (A ++ b :: B) := by
  have hbr : brk b.kind = 0 := brk_0 (by omega)
  have hbe : begK b.kind = false ∧ endK b.kind = false := by rcases hb with h | h | h <;> rw [h] <;> decide
  refine calm_mk (by simp) ?_ ?_ ?_
  · intro m i f d s hm hd h0
    rw [List.append_assoc, hA.1 m i f d (b :: B ++ s) hm hd (fun e => (h1 m (h0 e)).1), List.cons_append, cutI_skip ?_, hbr, Int.add_zero, hB.1 m _ f d s hm hd (fun e => (h1 m (h0 e)).2.1), List.length_append, List.length_cons]
    · congr 1; omega
    · by_cases h : d = 0
      · exact .inl (h1 m (h0 h)).2.2
      · right; omega
  · intro i f d k s hd hi
    rw [List.append_assoc, hA.2.1 i f d k (b :: B ++ s) hd (fun e => ⟨(hi e).1, hp⟩), List.cons_append, clI_skip (.inr (.inr (.inl hbe.1))), hbr, Int.add_zero, hB.2.1 _ f d _ s hd (fun e => ⟨.inr hbe.2, hq⟩), List.length_append, List.length_cons, lastK_append, lastK_cons]
    congr 1; omega
  · rw [lastK_append, lastK_cons, hB.2.2.2]; exact hB.2.2.1
theorem calm_group {o c : Lt} {A : List Lt} (h : Calm .list A) (ho : o.kind = 8) (hc : c.kind = 9) : Calm .group (o :: (A ++ [c])) := by
  have hbo : brk o.kind = 1 := by rw [ho]; decide
  have hbc : brk c.kind = -1 := by rw [hc]; decide
  have hlen : (o :: (A ++ [c])).length = A.length + 2 := by simp
  refine calm_mk (by simp) ?_ ?_ ?_
  · intro m i f d r hm hd _
    have e : o :: (A ++ [c]) ++ r = o :: (A ++ (c :: r)) := by simp
    rw [e, cutI_skip (.inl (by omega)), hbo, h.1 m (i + 1) f (d + 1) (c :: r) hm (by omega) (fun e => by omega), cutI_skip (.inl (by omega)), hbc, hlen]
    congr 1 <;> omega
  · intro i f d k r hd hi
    have hsk : ¬ f < i ∨ d ≠ 0 ∨ begK o.kind = false ∨ endK k = false := by
      by_cases h : d = 0
      · rcases (hi h).1 with h | h
        · left; omega
        · right; right; right; exact h
      · right; left; exact h
    have e : o :: (A ++ [c]) ++ r = o :: (A ++ (c :: r)) := by simp
    rw [e, clI_skip hsk, hbo, h.2.1 (i + 1) f (d + 1) o.kind (c :: r) (by omega) (fun e => by omega), clI_skip (.inr (.inl (by omega))), hbc, hlen, lastK_cons, lastK_snoc]
    congr 1 <;> omega
  · rw [lastK_cons, lastK_snoc, hc]; decide
theorem calm_span {a b c d e : Lt} (ha : a.kind = 10 ∨ a.kind = 12) (hb : sideT b = true) (hc : c.kind = 7) (hd : sideT d = true) (he : e.kind = 11 ∨ e.kind = 13) : Calm .leaf [a, b, c, d, e] := by
  have hb3 : b.kind = 1 ∨ b.kind = 2 ∨ b.kind = 3 := by simp [sideT, starT] at hb; omega
  have hd3 : d.kind = 1 ∨ d.kind = 2 ∨ d.kind = 3 := by simp [sideT, starT] at hd; omega
  have ba : brk a.kind = 1 := by rcases ha with h | h <;> rw [h] <;> decide
  have be : brk e.kind = -1 := by rcases he with h | h <;> rw [h] <;> decide
  have bb : brk b.kind = 0 := brk_0 (by omega)
  have bc : brk c.kind = 0 := brk_0 (by omega)
  have bd : brk d.kind = 0 := brk_0 (by omega)
  refine calm_mk (by simp) ?_ ?_ ?_
  · intro m i f x r hm hx _
    simp only [List.cons_append, List.nil_append]
    rw [cutI_skip (.inl (by omega)), cutI_skip (.inl (by omega)), cutI_skip (.inl (by omega)), cutI_skip (.inl (by omega)), cutI_skip (.inl (by omega)), ba, bb, bc, bd, be]
    show cutI m (i + 1 + 1 + 1 + 1 + 1) f _ r = cutI m (i + 5) f x r
    congr 1; omega
  · intro i f x k r hx hi
    have hsk : ¬ f < i ∨ x ≠ 0 ∨ begK a.kind = false ∨ endK k = false := by
      by_cases h : x = 0
      · rcases (hi h).1 with h | h
        · left; omega
        · right; right; right; exact h
      · right; left; exact h
    simp only [List.cons_append, List.nil_append]
    rw [clI_skip hsk, clI_skip (.inr (.inl (by omega))), clI_skip (.inr (.inl (by omega))), clI_skip (.inr (.inl (by omega))), clI_skip (.inr (.inl (by omega))), ba, bb, bc, bd, be]
    show clI (i + 1 + 1 + 1 + 1 + 1) f _ e.kind r = clI (i + 5) f x e.kind r
    congr 1; omega
  · show endK e.kind = true
    rcases he with h | h <;> rw [h] <;> decide
theorem calm_more {A B : List Lt} (hA : Calm .list A) (hB : Calm .clause B) : Calm .list (A ++ B) := by
  have hne : B ≠ [] := fun e => by have := hB.2.2.1; rw [e] at this; exact absurd this (by decide)
  refine calm_mk (by simp [hne]) ?_ ?_ ?_
  · intro m i f d s hm hd h0
    have hd0 : ¬ d = 0 := fun e => h0 e
    rw [List.append_assoc, hA.1 m i f d _ hm hd (fun e => hd0 e), hB.1 m _ f d _ hm hd (fun e => hd0 e), List.length_append, Nat.add_assoc]
  · intro i f d k s hd hi
    have hd0 : ¬ d = 0 := fun e => (hi e).2 rfl
    rw [List.append_assoc, hA.2.1 i f d k _ hd (fun e => absurd e hd0), hB.2.1 _ f d _ _ hd (fun e => absurd e hd0), List.length_append, Nat.add_assoc, lastK_append]
  · rw [lastK_append, hB.2.2.2]; exact hB.2.2.1
theorem D.calm {p : Pt} {A : List Lt} {n : Nat} {v : Vl} (h : D p A n v) : Calm p A := by
  induction h with
  | word ht => exact calm_tok (.inl ht) (.inl rfl)
  | edits ht hu _ => exact calm_tok (.inl ht) (.inr ⟨_, rfl, hu⟩)
  | pat ht => exact calm_tok (.inr (.inl ht)) (.inl rfl)
  | quo ht => exact calm_tok (.inr (.inr ht)) (.inl rfl)
  | slop ht hu _ => exact calm_tok (.inr (.inr ht)) (.inr ⟨_, rfl, hu⟩)
  | span ha hb hc hd he => exact calm_span ha hb hc hd he
  | group ho hA hc ih => exact calm_group ih ho hc
  | @least o c l A n v ho hA hc hl ih =>
    have := calm_sfx (q := .group) (calm_group ih ho hc) (by decide) (.inr (.inr hl)) (fun _ h => h)
    simpa using this
  | leafB _ ih => exact calm_up ih (fun _ h => h) (by decide)
  | groupB _ ih => exact calm_up ih (fun _ h => h) (by decide)
  | bodyA _ ih => exact calm_up ih (fun _ h => h) (by decide)
  | @field w c A n v hw hc hA ih =>
    have h1 : Calm .body (c :: A) := calm_ahead ih (by decide) (brk_0 (by omega)) (by omega) (by rw [hc]; decide) (fun _ h => h)
    have bw : brk w.kind = 0 := brk_0 (by omega)
    have bc : brk c.kind = 0 := brk_0 (by omega)
    refine calm_mk (by simp) ?_ ?_ ?_
    · intro m i f d r hm hd h0
      rw [List.cons_append, cutI_skip (.inl (by omega)), bw, Int.add_zero, h1.1 m (i + 1) f d r hm hd h0]
      congr 1; simp; omega
    · intro i f d k r hd hi
      have hsk : ¬ f < i ∨ d ≠ 0 ∨ begK w.kind = false ∨ endK k = false := by
        by_cases h : d = 0
        · rcases (hi h).1 with h | h
          · left; omega
          · right; right; right; exact h
        · right; left; exact h
      rw [List.cons_append, List.cons_append, clI_skip hsk, bw, Int.add_zero, clI_skip (.inr (.inr (.inl (by rw [hc]; decide)))), bc, Int.add_zero, ih.2.1 (i + 1 + 1) f d c.kind r hd (fun e => ⟨.inr (by rw [hc]; decide), by decide⟩), lastK_cons, lastK_cons]
      congr 1; simp; omega
    · rw [lastK_cons, lastK_cons, ih.2.2.2]; exact ih.2.2.1
  | @all s c t hs hc ht =>
    have hs2 : s.kind = 2 := by simp [starT] at hs; exact hs.1
    have ht2 : t.kind = 2 := by simp [starT] at ht; exact ht.1
    have bs : brk s.kind = 0 := brk_0 (by omega)
    have bc : brk c.kind = 0 := brk_0 (by omega)
    have bt : brk t.kind = 0 := brk_0 (by omega)
    refine calm_mk (by simp) ?_ ?_ ?_
    · intro m i f d r hm hd h0
      simp only [List.cons_append, List.nil_append]
      rw [cutI_skip (.inl (by omega)), cutI_skip (.inl (by omega)), cutI_skip (.inl (by omega)), bs, bc, bt]
      simp only [Int.add_zero]; rfl
    · intro i f d k r hd hi
      have hsk : ¬ f < i ∨ d ≠ 0 ∨ begK s.kind = false ∨ endK k = false := by
        by_cases h : d = 0
        · rcases (hi h).1 with h | h
          · left; omega
          · right; right; right; exact h
        · right; left; exact h
      simp only [List.cons_append, List.nil_append]
      rw [clI_skip hsk, clI_skip (.inr (.inr (.inl (by rw [hc]; decide)))), clI_skip (.inr (.inr (.inr (by rw [hc]; decide)))), bs, bc, bt]
      simp only [Int.add_zero]; rfl
    · show endK t.kind = true
      rw [ht2]; decide
  | atomP _ ih => exact calm_up ih (fun _ h => h) (by decide)
  | sfx _ hb ih => exact calm_sfx ih (by decide) (by omega) (fun _ h => h)
  | pieceU _ ih => exact calm_up ih (fun _ h => h) (by decide)
  | not ht _ ih => exact calm_ahead ih (by decide) (brk_0 (by omega)) (by omega) (by rw [ht]; decide) (fun _ h => h)
  | maxU _ ih => exact calm_up ih (fun _ _ => trivial) (by decide)
  | bar _ hb _ ih1 ih2 => exact calm_two ih1 ih2 (by decide) (by decide) (by omega) (fun m h => ⟨h, trivial, by rw [hb]; exact Ne.symm h⟩)
  | andM _ ih => exact calm_up ih (fun m (h : m = 5) => show m ≠ 17 by omega) (by decide)
  | and _ hb _ ih1 ih2 => exact calm_two ih1 ih2 (by decide) (by decide) (by omega) (fun m (h : m = 5) => ⟨h, show m ≠ 17 by omega, by omega⟩)
  | orA _ ih => exact calm_up ih (fun m h => h.elim) (by decide)
  | or _ hb _ ih1 ih2 => exact calm_two ih1 ih2 (by decide) (by decide) (by omega) (fun m h => h.elim)
  | clauseO _ ih => exact calm_up ih (fun m h => h) (by decide)
  | sign hs _ ih => exact calm_ahead ih (by decide) (brk_0 (by omega)) (by omega) (by rcases hs with h | h <;> rw [h] <;> decide) (fun m h => h.elim)
  | one _ ih => exact ⟨ih.1, fun i f d k r hd h0 => ih.2.1 i f d k r hd fun e => ⟨(h0 e).1, by decide⟩, ih.2.2⟩
  | more _ _ ih1 ih2 => exact calm_more ih1 ih2
def chRng (i : Nat) (B0 : List Lt) : List Cp → List (Nat × Nat)
  | [] => [(i, i + B0.length)]
  | x :: r => (i, i + B0.length) :: chRng (i + B0.length + 1) x.A r
theorem chain_cut {q : Pt} {k : Int} {wr : List (Int × Nd) → List (Int × Nd)} {A B0 : List Lt} {v v0 : Vl} {r : List Cp} (h : Chain q k wr A v B0 v0 r) (hk : k = 4 ∨ k = 5 ∨ k = 17) (hq : okm q k) (i : Nat) : cutI k i i 0 A = chRng i B0 r := by
  obtain ⟨h1, -, ⟨n, h3⟩, h4⟩ := h
  subst h1
  induction r generalizing i B0 v0 n with
  | nil =>
    have := h3.calm.1 k i i 0 [] hk (Int.le_refl _) (fun _ => hq)
    simp only [List.append_nil] at this
    simp only [chToks, List.flatMap_nil, List.append_nil]
    rw [this, cutI, chRng]
  | cons x r ih =>
    obtain ⟨hb, m, hx⟩ := h4 x List.mem_cons_self
    unfold chToks at ih ⊢
    rw [List.flatMap_cons, h3.calm.1 k i i 0 _ hk (Int.le_refl _) (fun _ => hq), List.cons_append, cutI, if_pos ⟨by rw [brk_0 (by omega)]; rfl, hb⟩, brk_0 (by omega), Int.add_zero, chRng]
    congr 1
    exact ih (B0 := x.A) (v0 := x.v) (i + B0.length + 1) (fun y hy => h4 y (List.mem_cons_of_mem _ hy)) m hx
def clRng (i : Nat) : List Cl → List (Nat × Nat)
  | [] => []
  | x :: l => (i, i + x.A.length) :: clRng (i + x.A.length) l
theorem beg_K {t : Lt} (h : begT t) : begK t.kind = true := by
  unfold begT at h
  unfold begK
  rcases h with h | h | h | h | h | h | h | h | h <;> rw [h] <;> decide
theorem list_cl (l : List Cl) (h0 : l ≠ []) (h : ∀ x ∈ l, ∃ n, D .clause x.A n x.v) (i : Nat) (k : Int) : clI i i 0 k (l.flatMap (·.A)) = clRng i l := by
  induction l generalizing i k with
  | nil => exact absurd rfl h0
  | cons x l ih =>
    obtain ⟨n, hx⟩ := h x List.mem_cons_self
    rw [List.flatMap_cons, hx.calm.2.1 i i 0 k _ (Int.le_refl _) (fun _ => ⟨.inl rfl, by decide⟩), clRng]
    cases l with
    | nil => rfl
    | cons y l =>
      obtain ⟨m, hy⟩ := h y (List.mem_cons_of_mem _ List.mem_cons_self)
      obtain ⟨⟨t, u, htu, ht⟩, _⟩ := hy.okk
      obtain ⟨⟨t0, u0, htu0, _⟩, _⟩ := hx.okk
      have hlen : 1 ≤ x.A.length := by rw [htu0]; simp
      have := ih (by simp) (fun z hz => h z (List.mem_cons_of_mem _ hz)) (i + x.A.length) (lastK k x.A)
      rw [← this]
      simp only [List.flatMap_cons]
      rw [htu, List.cons_append, clI, if_pos ⟨by omega, rfl, beg_K ht, by rw [hx.calm.2.2.2]; exact hx.calm.2.2.1⟩]
      rw [clI_skip (.inl (by omega))]
end Go.Proofs.YtcomdkejpaoneaaDoor
end
