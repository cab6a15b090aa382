/- Merged for a claim by shake.py: Jc Yd Jg Jf Jk Jx -/
import Derived.Test.YthcldpminmhgkaaDoorKn4
import Derived.Test.YthcldpminmhgkaaDoorKn9
section
namespace Go.Proofs.YthcldpminmhgkaaDoor
set_option maxRecDepth 100000
set_option linter.unusedSimpArgs false
set_option linter.unusedVariables false
theorem canonNs_length : ∀ l : List Nd, (canonNs l).length = l.length
  | [] => rfl
  | k :: ks => by rw [canonNs, List.length_cons, canonNs_length ks]; rfl
theorem canonNs_map : ∀ l : List Nd, canonNs l = l.map canonN
  | [] => rfl
  | k :: ks => by rw [canonNs, canonNs_map ks]; rfl
theorem goodNs_all : ∀ l : List Nd, goodNs l = true ↔ ∀ t ∈ l, goodN t = true
  | [] => by simp [goodNs]
  | k :: ks => by simp [goodNs, goodNs_all ks]
theorem canTop_cases (kind : Int) (field text : List UInt8) (n : Int) (lo hi : Bd) (occ : List Int) (cs : List Nd) :
    (∃ c, cs = [c] ∧ (kind = 10 ∨ kind = 11 ∨ kind = 12 ∨ (kind = 9 ∧ n = 0 ∧ occ[0]? = some 0)) ∧ canTop kind field text n lo hi occ cs = c) ∨
    ((cs.length = 1 → ¬ (kind = 10 ∨ kind = 11 ∨ kind = 12 ∨ (kind = 9 ∧ n = 0 ∧ occ[0]? = some 0))) ∧ canTop kind field text n lo hi occ cs = .mk kind field text n lo hi occ cs) := by
  rcases cs with _ | ⟨c, _ | ⟨d, r⟩⟩
  · exact .inr ⟨fun h => by simp at h, rfl⟩
  · by_cases h : kind = 10 ∨ kind = 11 ∨ kind = 12 ∨ (kind = 9 ∧ n = 0 ∧ occ[0]? = some 0)
    · exact .inl ⟨c, rfl, h, by rw [canTop, if_pos h]⟩
    · exact .inr ⟨fun _ => h, by rw [canTop, if_neg h]⟩
  · exact .inr ⟨fun h => by simp at h, rfl⟩
mutual
theorem canon_good : ∀ t : Nd, goodN t = true → goodN (canonN t) = true
  | .mk kind field text n lo hi occ ks, h => by
    rw [goodN, Bool.and_eq_true] at h
    have h2 := canons_good ks h.2
    rw [canonN]
    rcases canTop_cases kind field text n lo hi occ (canonNs ks) with ⟨c, hc, _, e⟩ | ⟨_, e⟩
    · rw [e]
      rw [hc] at h2
      exact (goodNs_all _).1 h2 c (List.mem_singleton.2 rfl)
    · rw [e, goodN, Bool.and_eq_true, canonNs_length]
      exact ⟨h.1, h2⟩
theorem canons_good : ∀ l : List Nd, goodNs l = true → goodNs (canonNs l) = true
  | [], _ => rfl
  | k :: ks, h => by
    rw [goodNs, Bool.and_eq_true] at h
    rw [canonNs, goodNs, Bool.and_eq_true]
    exact ⟨canon_good k h.1, canons_good ks h.2⟩
end
mutual
theorem canon_wt : ∀ t : Nd, wtN (canonN t) ≤ wtN t
  | .mk kind field text n lo hi occ ks => by
    have h2 := canons_wt ks
    rw [canonN]
    rcases canTop_cases kind field text n lo hi occ (canonNs ks) with ⟨c, hc, _, e⟩ | ⟨hn, e⟩
    · rw [e, wtN]
      rw [hc, wtNs, wtNs] at h2
      omega
    · rw [e, wtN, wtN]; omega
theorem canons_wt : ∀ l : List Nd, wtNs (canonNs l) ≤ wtNs l
  | [] => Nat.le_refl _
  | k :: ks => by
    have h := canon_wt k
    have h2 := canons_wt ks
    rw [canonNs, wtNs, wtNs]; omega
end
def CanN (t : Nd) : Prop := canonN t = t
end Go.Proofs.YthcldpminmhgkaaDoor
end
section
namespace Go.Proofs.YthcldpminmhgkaaDoor
set_option maxRecDepth 100000
set_option linter.unusedSimpArgs false
set_option linter.unusedVariables false
theorem patF_pe (f all : List UInt8) : ∀ (s letters : List UInt8), patF f all letters (s.flatMap pe ++ [42]) = ndLeaf 3 f (letters ++ s) 0
  | [], letters => by
    rw [List.flatMap_nil, List.nil_append, patF, if_pos rfl, List.append_nil]
  | c :: s, letters => by
    have ih := patF_pe f all s (letters ++ [c])
    rw [List.flatMap_cons]
    by_cases h : cls c = 3 ∨ cls c = 4
    · have hp : pe c = [92, c] := by unfold pe; rw [if_pos h]
      rw [hp]
      show patF f all letters (92 :: c :: (s.flatMap pe ++ [42])) = _
      rw [patF, if_neg (by decide), if_pos rfl, ih, List.append_assoc]; rfl
    · have hp : pe c = [c] := by unfold pe; rw [if_neg h]
      rw [hp]
      have h42 : c ≠ 42 := fun e => h (.inl (by rw [e]; decide))
      have h63 : c ≠ 63 := fun e => h (.inl (by rw [e]; decide))
      have h92 : c ≠ 92 := fun e => h (.inr (by rw [e]; decide))
      show patF f all letters (c :: (s.flatMap pe ++ [42])) = _
      cases hx : s.flatMap pe ++ [42] with
      | nil => simp at hx
      | cons d r =>
        rw [hx] at ih
        rw [patF, if_neg (by rw [not_or]; exact ⟨h63, h42⟩), if_neg h92, ih, List.append_assoc]; rfl
theorem pe_ne (s : List UInt8) (h : s ≠ []) : s.flatMap pe ++ [42] ≠ [42] := by
  cases s with
  | nil => exact absurd rfl h
  | cons c s =>
    intro e
    have := congrArg List.length e
    have h2 : 1 ≤ (pe c).length := by unfold pe; split <;> simp
    rw [List.flatMap_cons, List.length_append, List.length_append] at this
    simp only [List.length_singleton] at this; omega
theorem stop58 : stopB 58 := ⟨.inr (by decide), by decide⟩
theorem toks_word {s : List UInt8} (h : s ≠ []) : Toks (wordL s) [⟨1, s, 0, 0, 0⟩] := Toks.one (word_back h) rfl
theorem toks_z : Toks [122] [⟨1, [122], 0, 0, 0⟩] := ⟨[⟨1, [122], 0, 0, 1⟩], ⟨0, [], 0, 1, 1⟩, by rfl, rfl, rfl⟩
theorem toks_other : Toks [111, 116, 104, 101, 114] [⟨1, [111, 116, 104, 101, 114], 0, 0, 0⟩] := ⟨[⟨1, [111, 116, 104, 101, 114], 0, 0, 5⟩], ⟨0, [], 0, 5, 5⟩, by rfl, rfl, rfl⟩
def LeafT (l : List UInt8) (g : List UInt8 → Nd) : Prop := ∃ T, Toks l T ∧ D .body T 0 (one1 g)
theorem toks_field {f l : List UInt8} {T : List Lt} (hf : f ≠ []) (h : Toks l T) : Toks (wordL f ++ 58 :: l) (⟨1, f, 0, 0, 0⟩ :: ⟨14, [], 0, 0, 0⟩ :: T) :=
  Toks.app stop58 (toks_word hf) (.single (by decide) (by decide) h)
theorem LeafT.group {l : List UInt8} {g : List UInt8 → Nd} (h : LeafT l g) {f : List UInt8} (hf : f ≠ []) :
    Der (wordL f ++ 58 :: (40 :: (([122] ++ 32 :: (l ++ 32 :: ([111, 116, 104, 101, 114] ++ 58 :: l))) ++ [41]))) 1 (ndList 0 [(0, ndLeaf 1 f [122] 0), (0, g f), (0, g [111, 116, 104, 101, 114])]) := by
  obtain ⟨T, hT, hD⟩ := h
  have hT3 := Toks.app stop58 toks_other (Toks.single (k := 14) (by decide) (by decide) hT)
  have hT2 := Toks.app stop32 toks_z (.blank blank32 (.app stop32 hT (.blank blank32 hT3)))
  have hT1 := toks_field hf (toks_paren hT2 .nil)
  have d1 : D .unary [⟨1, [122], 0, 0, 0⟩] 0 (one1 fun f => ndLeaf 1 f [122] 0) := .pieceU (.atomP (.bodyA (.leafB (.word (t := ⟨1, [122], 0, 0, 0⟩) rfl))))
  have d2 : D .unary T 0 (one1 g) := .pieceU (.atomP (.bodyA hD))
  have d3 : D .unary (⟨1, [111, 116, 104, 101, 114], 0, 0, 0⟩ :: ⟨14, [], 0, 0, 0⟩ :: T) 0 (one1 fun _ => g [111, 116, 104, 101, 114]) := .pieceU (.atomP (.field (w := ⟨1, [111, 116, 104, 101, 114], 0, 0, 0⟩) (c := ⟨14, [], 0, 0, 0⟩) rfl rfl hD))
  have d4 := (d1.single.list2 d2.single).list2 d3.single
  have d5 : D .group (tkOpen :: (([⟨1, [122], 0, 0, 0⟩] ++ T ++ ⟨1, [111, 116, 104, 101, 114], 0, 0, 0⟩ :: ⟨14, [], 0, 0, 0⟩ :: T) ++ [tkClose])) 1 _ := .group rfl d4 rfl
  have d6 : D .unary _ 1 (one1 fun _ => ndList 0 [(0, ndLeaf 1 f [122] 0), (0, g f), (0, g [111, 116, 104, 101, 114])]) := .pieceU (.atomP (.field (w := ⟨1, f, 0, 0, 0⟩) (c := ⟨14, [], 0, 0, 0⟩) rfl rfl (.groupB d5)))
  have e : tkOpen :: (([⟨1, [122], 0, 0, 0⟩] ++ T ++ ⟨1, [111, 116, 104, 101, 114], 0, 0, 0⟩ :: ⟨14, [], 0, 0, 0⟩ :: T) ++ [tkClose]) = tkOpen :: (([⟨1, [122], 0, 0, 0⟩] ++ (T ++ ([⟨1, [111, 116, 104, 101, 114], 0, 0, 0⟩] ++ ⟨14, [], 0, 0, 0⟩ :: T))) ++ [tkClose]) := by simp
  rw [e] at d6
  exact der_mk hT1 d6.single rfl
end Go.Proofs.YthcldpminmhgkaaDoor
end
section
namespace Go.Proofs.YthcldpminmhgkaaDoor
set_option maxRecDepth 100000
set_option linter.unusedSimpArgs false
set_option linter.unusedVariables false
theorem pesc_pe (c : UInt8) : pesc c = pe c := by
  unfold pesc pe
  by_cases h : c = 42 ∨ c = 63 ∨ c = 92
  · rw [if_pos h, if_pos ((cls34 c).2 h)]
  · rw [if_neg h, if_neg (fun e => h ((cls34 c).1 e))]
theorem litL_pe (l : List UInt8) : litL l = l.flatMap pe := by
  unfold litL
  congr 1
  funext c
  exact pesc_pe c
theorem toks_pattern {l : List Bpt} (h : ∀ x ∈ l, x.ok) (hw : l.any Bpt.isWi = true) : Toks (patternL (ptC l)) [⟨2, ptC l, 0, 0, 0⟩] := by
  rw [pattern_c l h, ← pattern_p l h]
  exact Toks.one (pattern_back l h hw) rfl
theorem ptC_cons (x : Bpt) (l : List Bpt) : ptC (x :: l) = x.c.b ++ ptC l := rfl
theorem le_b {c : UInt8} (h : ¬ (c = 42 ∨ c = 63 ∨ c = 92)) : (Bpt.le c).c.b = [c] := by
  show (if c = 42 ∨ c = 63 ∨ c = 92 then At.es c else At.pl c).b = _
  rw [if_neg h]; rfl
theorem le_b2 {c : UInt8} (h : c = 42 ∨ c = 63 ∨ c = 92) : (Bpt.le c).c.b = [92, c] := by
  show (if c = 42 ∨ c = 63 ∨ c = 92 then At.es c else At.pl c).b = _
  rw [if_pos h]; rfl
theorem lit_ptC (s : List UInt8) : s.flatMap pe ++ [42] = ptC (s.map Bpt.le ++ [.wi 42]) := by
  induction s with
  | nil => rfl
  | cons c s ih =>
    rw [List.flatMap_cons, List.append_assoc, ih, List.map_cons, List.cons_append, ptC_cons, ← pesc_pe]
    unfold pesc
    by_cases h : c = 42 ∨ c = 63 ∨ c = 92
    · rw [if_pos h, le_b2 h]
    · rw [if_neg h, le_b h]
theorem wild_bpt : ∀ (N : Nat) (l : List UInt8) (i m : Nat) (last : Int) (m' : Nat) (last' : Int), l.length ≤ N → wildP l i m last = some (m', last') →
    ∃ bl : List Bpt, (∀ x ∈ bl, x.ok) ∧ l = ptC bl ∧ m ≤ m' ∧ (bl.any Bpt.isWi = false → m' = m)
  | N, [], i, m, last, m', last', _, h => by
    rw [wildP] at h
    cases h
    exact ⟨[], by simp, rfl, Nat.le_refl _, fun _ => rfl⟩
  | 0, c :: r, i, m, last, m', last', hl, h => by simp at hl
  | N + 1, c :: r, i, m, last, m', last', hl, h => by
    have hl2 : r.length ≤ N := by simpa using hl
    rw [wildP.eq_def] at h
    simp only [] at h
    by_cases c1 : c = 42
    · rw [if_pos c1] at h
      obtain ⟨bl, h1, h2, h3, h4⟩ := wild_bpt N r _ _ _ _ _ hl2 h
      refine ⟨.wi 42 :: bl, fun x hx => ?_, by rw [ptC_cons, ← h2, c1]; rfl, by omega, fun e => by simp [Bpt.isWi] at e⟩
      rcases List.mem_cons.1 hx with rfl | hx
      · show cls 42 = 3; decide
      · exact h1 x hx
    · rw [if_neg c1] at h
      by_cases c2 : c = 63
      · rw [if_pos c2] at h
        obtain ⟨bl, h1, h2, h3, h4⟩ := wild_bpt N r _ _ _ _ _ hl2 h
        refine ⟨.wi 63 :: bl, fun x hx => ?_, by rw [ptC_cons, ← h2, c2]; rfl, by omega, fun e => by simp [Bpt.isWi] at e⟩
        rcases List.mem_cons.1 hx with rfl | hx
        · show cls 63 = 3; decide
        · exact h1 x hx
      · rw [if_neg c2] at h
        by_cases c3 : c = 92
        · rw [if_pos c3] at h
          cases r with
          | nil => cases h
          | cons d r2 =>
            simp only [] at h
            by_cases c4 : d = 42 ∨ d = 63 ∨ d = 92
            · rw [if_pos c4] at h
              obtain ⟨bl, h1, h2, h3, h4⟩ := wild_bpt N r2 _ _ _ _ _ (by simp at hl2; omega) h
              refine ⟨.le d :: bl, fun x hx => ?_, by rw [ptC_cons, ← h2, c3, le_b2 c4]; rfl, h3, fun e => h4 (by simpa [Bpt.isWi] using e)⟩
              rcases List.mem_cons.1 hx with rfl | hx
              · trivial
              · exact h1 x hx
            · rw [if_neg c4] at h; cases h
        · rw [if_neg c3] at h
          obtain ⟨bl, h1, h2, h3, h4⟩ := wild_bpt N r _ _ _ _ _ hl2 h
          refine ⟨.le c :: bl, fun x hx => ?_, by rw [ptC_cons, ← h2, le_b (by rintro (e | e | e) <;> contradiction)]; rfl, h3, fun e => h4 (by simpa [Bpt.isWi] using e)⟩
          rcases List.mem_cons.1 hx with rfl | hx
          · trivial
          · exact h1 x hx
theorem patF_wild (f all : List UInt8) : ∀ (N : Nat) (l letters : List UInt8) (i m : Nat) (last : Int) (m' : Nat) (last' : Int), l.length ≤ N → wildP l i m last = some (m', last') →
    (m + 1 < m' ∨ last' ≠ (i : Int) + l.length - 1) → patF f all letters l = ndLeaf 4 f all 0
  | N, [], letters, i, m, last, m', last', _, h, hh => by rw [patF]
  | 0, c :: r, letters, i, m, last, m', last', hl, h, hh => by simp at hl
  | N + 1, [c], letters, i, m, last, m', last', hl, h, hh => by
    rw [patF]
    by_cases c1 : c = 42
    · exfalso
      rw [wildP, if_pos c1, wildP] at h
      cases h
      simp at hh
    · rw [if_neg c1]
  | N + 1, c :: d :: r, letters, i, m, last, m', last', hl, h, hh => by
    rw [patF]
    have hl2 : (d :: r).length ≤ N := by simpa using hl
    by_cases c1 : c = 63 ∨ c = 42
    · rw [if_pos c1]
    · rw [if_neg c1]
      rw [wildP.eq_def] at h
      simp only [] at h
      rw [if_neg (fun e => c1 (.inr e)), if_neg (fun e => c1 (.inl e))] at h
      by_cases c3 : c = 92
      · rw [if_pos c3] at h ⊢
        by_cases c4 : d = 42 ∨ d = 63 ∨ d = 92
        · rw [if_pos c4] at h
          exact patF_wild f all N r _ (i + 2) m last m' last' (by simp at hl2; omega) h (by simp only [List.length_cons] at hh ⊢; omega)
        · rw [if_neg c4] at h; cases h
      · rw [if_neg c3] at h ⊢
        exact patF_wild f all N (d :: r) _ (i + 1) m last m' last' hl2 h (by simp only [List.length_cons] at hh ⊢; omega)
theorem toks_wild {p : List UInt8} (h : wildB p = true) : Toks (patternL p) [⟨2, p, 0, 0, 0⟩] ∧ ∀ f, patN f p = ndLeaf 4 f p 0 := by
  unfold wildB at h
  cases hw : wildP p 0 0 (-1) with
  | none => rw [hw] at h; cases h
  | some a =>
    obtain ⟨m, last⟩ := a
    rw [hw] at h
    simp only [Bool.or_eq_true, Bool.and_eq_true, decide_eq_true_eq] at h
    obtain ⟨bl, h1, h2, h3, h4⟩ := wild_bpt p.length p 0 0 (-1) m last (Nat.le_refl _) hw
    have hwi : bl.any Bpt.isWi = true := by
      cases hb : bl.any Bpt.isWi with
      | true => rfl
      | false => have := h4 hb; omega
    refine ⟨by rw [h2]; exact toks_pattern h1 hwi, fun f => ?_⟩
    unfold patN
    rw [if_neg (fun e => ?_), patF_wild f p p.length p [] 0 0 (-1) m last (Nat.le_refl _) hw (by rcases h with h | h; exact .inl (by omega); exact .inr (by have := h.2; omega))]
    rw [e, wildP, if_pos rfl, wildP] at hw
    cases hw
    rw [e] at h
    simp at h
theorem toks_lit {s : List UInt8} (h : s ≠ []) : Toks (patternL (litL s ++ [42])) [⟨2, litL s ++ [42], 0, 0, 0⟩] ∧ ∀ f, patN f (litL s ++ [42]) = ndLeaf 3 f s 0 := by
  rw [litL_pe, lit_ptC]
  refine ⟨toks_pattern (fun x hx => ?_) (by simp [Bpt.isWi]), fun f => ?_⟩
  · rcases List.mem_append.1 hx with hx | hx
    · obtain ⟨c, _, rfl⟩ := List.mem_map.1 hx; trivial
    · rw [List.mem_singleton.1 hx]; show cls 42 = 3; decide
  · rw [← lit_ptC]
    unfold patN
    rw [if_neg (pe_ne s h), patF_pe, List.nil_append]
end Go.Proofs.YthcldpminmhgkaaDoor
end
section
namespace Go.Proofs.YthcldpminmhgkaaDoor
set_option maxRecDepth 100000
set_option linter.unusedSimpArgs false
set_option linter.unusedVariables false
theorem Bd.nil_eq {b : Bd} (h : b.nil = true) : b = bd0 := by
  obtain ⟨o, i, t⟩ := b
  unfold Bd.nil at h
  simp only [Bool.and_eq_true, Bool.not_eq_true', List.isEmpty_iff] at h
  obtain ⟨⟨rfl, rfl⟩, rfl⟩ := h
  rfl
def LeafOk (kind : Int) (text : List UInt8) (n : Int) (lo hi : Bd) : Prop :=
  (kind = 1 ∧ text ≠ [] ∧ n = 0 ∧ lo = bd0 ∧ hi = bd0) ∨ (kind = 2 ∧ 0 ≤ n ∧ n ≤ 999999999 ∧ lo = bd0 ∧ hi = bd0) ∨ (kind = 3 ∧ text ≠ [] ∧ n = 0 ∧ lo = bd0 ∧ hi = bd0) ∨
  (kind = 4 ∧ wildB text = true ∧ n = 0 ∧ lo = bd0 ∧ hi = bd0) ∨ (kind = 5 ∧ text ≠ [] ∧ (n = 1 ∨ n = 2) ∧ lo = bd0 ∧ hi = bd0) ∨ (kind = 6 ∧ text = [] ∧ n = 0 ∧ lo.ok = true ∧ hi.ok = true) ∨
  (kind = 7 ∧ text = [] ∧ n = 0 ∧ lo = bd0 ∧ hi = bd0) ∨ (kind = 8 ∧ text = [] ∧ n = 0 ∧ lo = bd0 ∧ hi = bd0)
theorem numB_iff {n : Int} : numB n = true ↔ 0 ≤ n ∧ n ≤ 999999999 := by
  unfold numB maxNum
  rw [Bool.and_eq_true, decide_eq_true_eq, decide_eq_true_eq]
theorem own_cases {kind n : Int} {field text : List UInt8} {lo hi : Bd} {occ : List Int} {nk : Nat} (h : ownN kind field text n lo hi occ nk = true) :
    (LeafOk kind text n lo hi ∧ occ = [] ∧ nk = 0 ∧ (kind = 8 → field = []) ∧ kind < 9) ∨
    (9 ≤ kind ∧ kind ≤ 15 ∧ field = [] ∧ text = [] ∧ lo = bd0 ∧ hi = bd0 ∧ 0 ≤ n ∧ n ≤ 999999999 ∧ 0 < nk ∧ (kind = 9 → occ.length = nk ∧ ∀ o ∈ occ, 0 ≤ o ∧ o ≤ 2) ∧ (kind ≠ 9 → occ = []) ∧ (kind = 10 ∨ kind = 11 ∨ kind = 12 ∨ kind = 13 → n = 0) ∧ (13 ≤ kind → nk = 1)) := by
  unfold ownN at h
  by_cases c1 : kind = 1 ∨ kind = 3
  · rw [if_pos c1] at h
    simp only [Bool.and_eq_true, decide_eq_true_eq, Bool.not_eq_true', List.isEmpty_iff] at h
    obtain ⟨⟨⟨⟨⟨h1, h2⟩, h3⟩, h4⟩, h5⟩, h6⟩ := h
    have h7 : text ≠ [] := fun e => by rw [e] at h1; cases h1
    refine .inl ⟨?_, h5, h6, fun e => by omega, by omega⟩
    rcases c1 with c1 | c1
    · exact .inl ⟨c1, h7, h2, Bd.nil_eq h3, Bd.nil_eq h4⟩
    · exact .inr (.inr (.inl ⟨c1, h7, h2, Bd.nil_eq h3, Bd.nil_eq h4⟩))
  rw [if_neg c1] at h
  by_cases c2 : kind = 2
  · rw [if_pos c2] at h
    simp only [Bool.and_eq_true, decide_eq_true_eq, List.isEmpty_iff, numB_iff] at h
    obtain ⟨⟨⟨⟨h2, h3⟩, h4⟩, h5⟩, h6⟩ := h
    exact .inl ⟨.inr (.inl ⟨c2, h2.1, h2.2, Bd.nil_eq h3, Bd.nil_eq h4⟩), h5, h6, fun e => by omega, by omega⟩
  rw [if_neg c2] at h
  by_cases c4 : kind = 4
  · rw [if_pos c4] at h
    simp only [Bool.and_eq_true, decide_eq_true_eq, List.isEmpty_iff] at h
    obtain ⟨⟨⟨⟨⟨h1, h2⟩, h3⟩, h4⟩, h5⟩, h6⟩ := h
    exact .inl ⟨.inr (.inr (.inr (.inl ⟨c4, h1, h2, Bd.nil_eq h3, Bd.nil_eq h4⟩))), h5, h6, fun e => by omega, by omega⟩
  rw [if_neg c4] at h
  by_cases c5 : kind = 5
  · rw [if_pos c5] at h
    simp only [Bool.and_eq_true, Bool.or_eq_true, decide_eq_true_eq, Bool.not_eq_true', List.isEmpty_iff] at h
    obtain ⟨⟨⟨⟨⟨h1, h2⟩, h3⟩, h4⟩, h5⟩, h6⟩ := h
    have h7 : text ≠ [] := fun e => by rw [e] at h1; cases h1
    exact .inl ⟨.inr (.inr (.inr (.inr (.inl ⟨c5, h7, h2, Bd.nil_eq h3, Bd.nil_eq h4⟩)))), h5, h6, fun e => by omega, by omega⟩
  rw [if_neg c5] at h
  by_cases c6 : kind = 6
  · rw [if_pos c6] at h
    simp only [Bool.and_eq_true, decide_eq_true_eq, List.isEmpty_iff] at h
    obtain ⟨⟨⟨⟨⟨h1, h2⟩, h3⟩, h4⟩, h5⟩, h6⟩ := h
    exact .inl ⟨.inr (.inr (.inr (.inr (.inr (.inl ⟨c6, h1, h2, h3, h4⟩))))), h5, h6, fun e => by omega, by omega⟩
  rw [if_neg c6] at h
  by_cases c7 : kind = 7
  · rw [if_pos c7] at h
    simp only [Bool.and_eq_true, decide_eq_true_eq, List.isEmpty_iff] at h
    obtain ⟨⟨⟨⟨⟨h1, h2⟩, h3⟩, h4⟩, h5⟩, h6⟩ := h
    exact .inl ⟨.inr (.inr (.inr (.inr (.inr (.inr (.inl ⟨c7, h1, h2, Bd.nil_eq h3, Bd.nil_eq h4⟩)))))), h5, h6, fun e => by omega, by omega⟩
  rw [if_neg c7] at h
  by_cases c8 : kind = 8
  · rw [if_pos c8] at h
    simp only [Bool.and_eq_true, decide_eq_true_eq, List.isEmpty_iff] at h
    obtain ⟨⟨⟨⟨⟨⟨h0, h1⟩, h2⟩, h3⟩, h4⟩, h5⟩, h6⟩ := h
    exact .inl ⟨.inr (.inr (.inr (.inr (.inr (.inr (.inr ⟨c8, h1, h2, Bd.nil_eq h3, Bd.nil_eq h4⟩)))))), h5, h6, fun e => h0, by omega⟩
  rw [if_neg c8] at h
  by_cases c9 : kind = 9
  · rw [if_pos c9] at h
    simp only [Bool.and_eq_true, decide_eq_true_eq, List.isEmpty_iff, numB_iff, occB, List.all_eq_true] at h
    obtain ⟨⟨⟨⟨⟨⟨⟨h0, h1⟩, h2⟩, h3⟩, h4⟩, h5⟩, h6⟩, h7⟩ := h
    exact .inr ⟨by omega, by omega, h0, h1, Bd.nil_eq h3, Bd.nil_eq h4, h2.1, h2.2, h7, fun _ => ⟨h5, h6⟩, fun e => absurd c9 e, fun e => by omega, fun e => by omega⟩
  rw [if_neg c9] at h
  by_cases c10 : kind = 10 ∨ kind = 11 ∨ kind = 12
  · rw [if_pos c10] at h
    simp only [Bool.and_eq_true, decide_eq_true_eq, List.isEmpty_iff] at h
    obtain ⟨⟨⟨⟨⟨⟨h0, h1⟩, h2⟩, h3⟩, h4⟩, h5⟩, h6⟩ := h
    exact .inr ⟨by omega, by omega, h0, h1, Bd.nil_eq h3, Bd.nil_eq h4, by omega, by omega, h6, fun e => absurd e c9, fun _ => h5, fun _ => h2, fun e => by omega⟩
  rw [if_neg c10] at h
  by_cases c13 : kind = 13
  · rw [if_pos c13] at h
    simp only [Bool.and_eq_true, decide_eq_true_eq, List.isEmpty_iff] at h
    obtain ⟨⟨⟨⟨⟨⟨h0, h1⟩, h2⟩, h3⟩, h4⟩, h5⟩, h6⟩ := h
    exact .inr ⟨by omega, by omega, h0, h1, Bd.nil_eq h3, Bd.nil_eq h4, by omega, by omega, by omega, fun e => absurd e c9, fun _ => h5, fun _ => h2, fun _ => h6⟩
  rw [if_neg c13] at h
  by_cases c14 : kind = 14 ∨ kind = 15
  · rw [if_pos c14] at h
    simp only [Bool.and_eq_true, decide_eq_true_eq, List.isEmpty_iff, numB_iff] at h
    obtain ⟨⟨⟨⟨⟨⟨h0, h1⟩, h2⟩, h3⟩, h4⟩, h5⟩, h6⟩ := h
    exact .inr ⟨by omega, by omega, h0, h1, Bd.nil_eq h3, Bd.nil_eq h4, h2.1, h2.2, by omega, fun e => absurd e c9, fun _ => h5, fun e => by omega, fun _ => h6⟩
  rw [if_neg c14] at h
  cases h
end Go.Proofs.YthcldpminmhgkaaDoor
end
section
namespace Go.Proofs.YthcldpminmhgkaaDoor
set_option maxRecDepth 100000
set_option linter.unusedSimpArgs false
set_option linter.unusedVariables false
def LvD (t : Nd) (T : List Lt) : Prop :=
  (levN t = 6 ∧ ∃ v, D .atom T (nestN t) v ∧ v [] = [(0, t)]) ∨ (levN t = 5 ∧ ∃ v, D .piece T (nestN t) v ∧ v [] = [(0, t)]) ∨ (levN t = 4 ∧ ∃ v, D .unary T (nestN t) v ∧ v [] = [(0, t)]) ∨
  (levN t = 3 ∧ ∃ v, D .maxes T (nestN t) v ∧ wrapN 12 (v []) = [(0, t)]) ∨ (levN t = 2 ∧ ∃ v, D .ands T (nestN t) v ∧ wrapN 10 (v []) = [(0, t)]) ∨
  (levN t = 1 ∧ ∃ v, D .ors T (nestN t) v ∧ wrapN 11 (v []) = [(0, t)]) ∨ (levN t = 0 ∧ ∃ v, D .list T (nestN t) v ∧ treeN (v []) = t)
def FT (t : Nd) : Prop := ∃ T, Toks (formN t) T ∧ LvD t T
theorem LvD.piece {t : Nd} {T : List Lt} (h : LvD t T) (hl : 5 ≤ levN t) : ∃ v, D .piece T (nestN t) v ∧ v [] = [(0, t)] := by
  rcases h with ⟨e, v, h, hv⟩ | ⟨e, v, h, hv⟩ | ⟨e, h⟩ | ⟨e, h⟩ | ⟨e, h⟩ | ⟨e, h⟩ | ⟨e, h⟩
  · exact ⟨_, .atomP h, hv⟩
  · exact ⟨_, h, hv⟩
  all_goals omega
theorem LvD.unary {t : Nd} {T : List Lt} (h : LvD t T) (hl : 4 ≤ levN t) : ∃ v, D .unary T (nestN t) v ∧ v [] = [(0, t)] := by
  by_cases h5 : 5 ≤ levN t
  · obtain ⟨v, hd, hv⟩ := h.piece h5
    exact ⟨v, .pieceU hd, hv⟩
  · rcases h with ⟨e, h⟩ | ⟨e, h⟩ | ⟨e, v, h, hv⟩ | ⟨e, h⟩ | ⟨e, h⟩ | ⟨e, h⟩ | ⟨e, h⟩
    · omega
    · omega
    · exact ⟨v, h, hv⟩
    all_goals omega
theorem LvD.maxes {t : Nd} {T : List Lt} (h : LvD t T) (hl : 3 ≤ levN t) : ∃ v, D .maxes T (nestN t) v ∧ wrapN 12 (v []) = [(0, t)] := by
  by_cases h5 : 4 ≤ levN t
  · obtain ⟨v, hd, hv⟩ := h.unary h5
    exact ⟨v, .maxU hd, by rw [hv]; rfl⟩
  · rcases h with ⟨e, h⟩ | ⟨e, h⟩ | ⟨e, h⟩ | ⟨e, v, h, hv⟩ | ⟨e, h⟩ | ⟨e, h⟩ | ⟨e, h⟩
    · omega
    · omega
    · omega
    · exact ⟨v, h, hv⟩
    all_goals omega
theorem LvD.ands {t : Nd} {T : List Lt} (h : LvD t T) (hl : 2 ≤ levN t) : ∃ v, D .ands T (nestN t) v ∧ wrapN 10 (v []) = [(0, t)] := by
  by_cases h5 : 3 ≤ levN t
  · obtain ⟨v, hd, hv⟩ := h.maxes h5
    exact ⟨_, .andM hd, by rw [hv]; rfl⟩
  · rcases h with ⟨e, h⟩ | ⟨e, h⟩ | ⟨e, h⟩ | ⟨e, h⟩ | ⟨e, v, h, hv⟩ | ⟨e, h⟩ | ⟨e, h⟩
    · omega
    · omega
    · omega
    · omega
    · exact ⟨v, h, hv⟩
    all_goals omega
theorem LvD.ors {t : Nd} {T : List Lt} (h : LvD t T) (hl : 1 ≤ levN t) : ∃ v, D .ors T (nestN t) v ∧ wrapN 11 (v []) = [(0, t)] := by
  by_cases h5 : 2 ≤ levN t
  · obtain ⟨v, hd, hv⟩ := h.ands h5
    exact ⟨_, .orA hd, by rw [hv]; rfl⟩
  · rcases h with ⟨e, h⟩ | ⟨e, h⟩ | ⟨e, h⟩ | ⟨e, h⟩ | ⟨e, h⟩ | ⟨e, v, h, hv⟩ | ⟨e, h⟩
    · omega
    · omega
    · omega
    · omega
    · omega
    · exact ⟨v, h, hv⟩
    · omega
theorem LvD.list {t : Nd} {T : List Lt} (h : LvD t T) : ∃ v, D .list T (nestN t) v ∧ treeN (v []) = t := by
  by_cases h5 : 1 ≤ levN t
  · obtain ⟨v, hd, hv⟩ := h.ors h5
    exact ⟨_, .one (.clauseO hd), by rw [hv]; rfl⟩
  · rcases h with ⟨e, h⟩ | ⟨e, h⟩ | ⟨e, h⟩ | ⟨e, h⟩ | ⟨e, h⟩ | ⟨e, h⟩ | ⟨e, v, h, hv⟩
    · omega
    · omega
    · omega
    · omega
    · omega
    · omega
    · exact ⟨v, h, hv⟩
theorem FT.paren {t : Nd} (h : FT t) : ∃ T v, Toks (40 :: (formN t ++ [41])) T ∧ D .piece T (nestN t + 1) v ∧ v [] = [(0, t)] := by
  obtain ⟨T, hT, hL⟩ := h
  obtain ⟨v, hD, hv⟩ := hL.list
  refine ⟨_, _, toks_paren hT .nil, hD.paren, ?_⟩
  show [((0 : Int), treeN (v []))] = _
  rw [hv]
def bump (t : Nd) (m : Nat) : Nat := nestN t + if levN t < m then 1 else 0
theorem br_yes {t : Nd} {m : Nat} (h : levN t < m) : brF (decide (levN t < m)) (formN t) = 40 :: (formN t ++ [41]) ∧ bump t m = nestN t + 1 := by
  unfold brF bump
  rw [if_pos (decide_eq_true h), if_pos h]; exact ⟨rfl, rfl⟩
theorem br_no {t : Nd} {m : Nat} (h : ¬ levN t < m) : brF (decide (levN t < m)) (formN t) = formN t ∧ bump t m = nestN t := by
  unfold brF bump
  rw [if_neg (by rw [decide_eq_false h]; decide), if_neg h]; exact ⟨rfl, rfl⟩
theorem FT.at2 {t : Nd} (h : FT t) : ∃ T v, Toks (brF (decide (levN t < 2)) (formN t)) T ∧ D .ands T (bump t 2) v ∧ wrapN 10 (v []) = [(0, t)] := by
  by_cases hl : levN t < 2
  · rw [(br_yes hl).1, (br_yes hl).2]
    obtain ⟨T, v, hT, hD, hv⟩ := h.paren
    exact ⟨T, _, hT, .andM (.maxU (.pieceU hD)), by rw [hv]; rfl⟩
  · rw [(br_no hl).1, (br_no hl).2]
    obtain ⟨T, hT, hL⟩ := h
    obtain ⟨v, hD, hv⟩ := hL.ands (by omega)
    exact ⟨T, v, hT, hD, hv⟩
theorem nestNs_cons (kind : Int) (occ : List Int) (k : Nd) (ks : List Nd) : nestNs kind occ (k :: ks) = max (bump k (barK kind (occ.headD 0))) (nestNs kind occ.tail ks) := by rw [nestNs]; rfl
theorem wrap_many {k : Int} {l : List (Int × Nd)} (h : l.length ≠ 1) : wrapN k l = [(0, ndKids k 0 (l.map (·.2)))] := by
  rcases l with _ | ⟨a, _ | ⟨b, r⟩⟩
  · rfl
  · exact absurd rfl h
  · rfl
theorem barK12 (o : Int) : barK 12 o = 4 := rfl
theorem barK10 (o : Int) : barK 10 o = 3 := rfl
theorem barK11 (o : Int) : barK 11 o = 2 := rfl
end Go.Proofs.YthcldpminmhgkaaDoor
end
section
namespace Go.Proofs.YthcldpminmhgkaaDoor
set_option maxRecDepth 100000
set_option linter.unusedSimpArgs false
set_option linter.unusedVariables false
theorem cls_cases (c : UInt8) : cls c = 0 ∨ cls c = 1 ∨ cls c = 2 ∨ cls c = 3 ∨ cls c = 4 := by
  have := all_bytes' (p := fun c => decide (cls c = 0 ∨ cls c = 1 ∨ cls c = 2 ∨ cls c = 3 ∨ cls c = 4)) (by decide +kernel) c
  exact of_decide_eq_true this
theorem pe_le (c : UInt8) : (Bpt.le c).c.b = pe c := by
  rw [← pesc_pe]
  unfold pesc
  by_cases h : c = 42 ∨ c = 63 ∨ c = 92
  · rw [le_b2 h, if_pos h]
  · rw [le_b h, if_neg h]
theorem cls0_le {c : UInt8} (h : cls c = 0) : (Bpt.le c).c.b = [c] := by
  refine le_b fun e => ?_
  have := (cls34 c).2 e
  omega
theorem runL_bpt : ∀ (N : Nat) (l : List UInt8) (r : Rn), l.length ≤ N → runL l = some r →
    ∃ bl : List Bpt, (∀ x ∈ bl, x.ok) ∧ r.pat = ptC bl ∧ (bl.any Bpt.isWi = true ↔ 0 < r.wilds) ∧ r.text.length + r.wilds = bl.length ∧ (∀ c t, l = c :: t → cls c ≠ 1 → cls c ≠ 2 → bl ≠ [])
  | N, [], r, _, h => by
    rw [runL] at h
    cases h
    exact ⟨[], by simp, rfl, by simp, rfl, fun c t e => by cases e⟩
  | 0, c :: t, r, hl, h => by simp at hl
  | N + 1, [c], r, hl, h => by
    rw [runL] at h
    rcases cls_cases c with e | e | e | e | e <;> simp only [e] at h
    · cases h
      exact ⟨[.le c], fun x hx => by rw [List.mem_singleton.1 hx]; trivial, by rw [ptC_cons, cls0_le e]; rfl, by simp [Bpt.isWi], rfl, fun _ _ _ _ _ => by simp⟩
    · cases h
      exact ⟨[], by simp, rfl, by simp, rfl, fun d u e2 h1 _ => by injection e2 with e2 _; rw [← e2] at h1; exact absurd e h1⟩
    · cases h
      exact ⟨[], by simp, rfl, by simp, rfl, fun d u e2 _ h1 => by injection e2 with e2 _; rw [← e2] at h1; exact absurd e h1⟩
    · cases h
      exact ⟨[.wi c], fun x hx => by rw [List.mem_singleton.1 hx]; exact e, rfl, by simp [Bpt.isWi], rfl, fun _ _ _ _ _ => by simp⟩
    · cases h
  | N + 1, c :: d :: t, r, hl, h => by
    rw [runL] at h
    have hl2 : (d :: t).length ≤ N := by simpa using hl
    rcases cls_cases c with e | e | e | e | e <;> simp only [e] at h
    · obtain ⟨r2, h2, rfl⟩ := Option.map_eq_some_iff.1 h
      obtain ⟨bl, g1, g2, g3, g4, _⟩ := runL_bpt N (d :: t) r2 hl2 h2
      refine ⟨.le c :: bl, fun x hx => ?_, by rw [ptC_cons, cls0_le e, ← g2]; rfl, ?_, ?_, fun _ _ _ _ _ => by simp⟩
      · rcases List.mem_cons.1 hx with rfl | hx
        · trivial
        · exact g1 x hx
      · rw [List.any_cons]
        show (false || bl.any Bpt.isWi) = true ↔ 0 < 0 + r2.wilds
        rw [Bool.false_or, Nat.zero_add]; exact g3
      · show ([c] ++ r2.text).length + (0 + r2.wilds) = _
        simp; omega
    · cases h
      exact ⟨[], by simp, rfl, by simp, rfl, fun d u e2 h1 _ => by injection e2 with e2 _; rw [← e2] at h1; exact absurd e h1⟩
    · cases h
      exact ⟨[], by simp, rfl, by simp, rfl, fun d u e2 _ h1 => by injection e2 with e2 _; rw [← e2] at h1; exact absurd e h1⟩
    · obtain ⟨r2, h2, rfl⟩ := Option.map_eq_some_iff.1 h
      obtain ⟨bl, g1, g2, g3, g4, _⟩ := runL_bpt N (d :: t) r2 hl2 h2
      refine ⟨.wi c :: bl, fun x hx => ?_, by rw [ptC_cons, ← g2]; rfl, ?_, ?_, fun _ _ _ _ _ => by simp⟩
      · rcases List.mem_cons.1 hx with rfl | hx
        · exact e
        · exact g1 x hx
      · rw [List.any_cons]
        show (true || bl.any Bpt.isWi) = true ↔ 0 < 1 + r2.wilds
        simp
        omega
      · show ([] ++ r2.text).length + (1 + r2.wilds) = _
        simp; omega
    · obtain ⟨r2, h2, rfl⟩ := Option.map_eq_some_iff.1 h
      obtain ⟨bl, g1, g2, g3, g4, _⟩ := runL_bpt N t r2 (by simp at hl2; omega) h2
      refine ⟨.le d :: bl, fun x hx => ?_, by rw [ptC_cons, pe_le, ← g2]; rfl, ?_, ?_, fun _ _ _ _ _ => by simp⟩
      · rcases List.mem_cons.1 hx with rfl | hx
        · trivial
        · exact g1 x hx
      · rw [List.any_cons]
        show (false || bl.any Bpt.isWi) = true ↔ 0 < 0 + r2.wilds
        rw [Bool.false_or, Nat.zero_add]; exact g3
      · show ([d] ++ r2.text).length + (0 + r2.wilds) = _
        simp; omega
def GTok (k : Int) (text : List UInt8) (n : Int) : Prop :=
  (k = 1 → text ≠ []) ∧ (k = 2 → ∃ bl : List Bpt, (∀ x ∈ bl, x.ok) ∧ text = ptC bl ∧ bl.any Bpt.isWi = true) ∧ (k = 18 ∨ k = 19 ∨ k = 21 → 0 ≤ n ∧ n ≤ 999999999) ∧ (k = 20 → n ≤ 999999999)
theorem gtok_other {k n : Int} {text : List UInt8} (h : k ≠ 1 ∧ k ≠ 2 ∧ k ≠ 18 ∧ k ≠ 19 ∧ k ≠ 20 ∧ k ≠ 21) : GTok k text n :=
  ⟨fun e => absurd e h.1, fun e => absurd e h.2.1, fun e => by omega, fun e => absurd e h.2.2.2.2.1⟩
theorem gtok_num {kind : Int} {l : List UInt8} {m : Nat} {k : Tk} (hk : kind = 18 ∨ kind = 19 ∨ kind = 20 ∨ kind = 21) (h : numTk kind l m = some k) : GTok k.kind k.text k.n := by
  unfold numTk at h
  split at h
  · rename_i hn
    cases h
    have := of_decide_eq_true hn
    exact ⟨fun e => by simp only [] at e; omega, fun e => by simp only [] at e; omega, fun _ => by simp only []; omega, fun _ => by simp only []; omega⟩
  · cases h
theorem single_bd (c : UInt8) : singleK c = 0 ∨ (8 ≤ singleK c ∧ singleK c ≤ 17) := by
  have := all_bytes' (p := fun c => decide (singleK c = 0 ∨ (8 ≤ singleK c ∧ singleK c ≤ 17))) (by decide +kernel) c
  exact of_decide_eq_true this
theorem tok_gtok {c : UInt8} {t : List UInt8} {k : Tk} (h : tokOf (c :: t) = some k) (hc : cls c ≠ 1) : GTok k.kind k.text k.n := by
  rw [tokOf] at h
  have hs := single_bd c
  by_cases h1 : singleK c ≠ 0
  · rw [if_pos h1] at h
    cases h
    exact gtok_other (by simp only []; omega)
  rw [if_neg h1] at h
  by_cases h2 : c = 34
  · rw [if_pos h2] at h
    obtain ⟨x, _, rfl⟩ := Option.map_eq_some_iff.1 h
    exact gtok_other (by simp only []; omega)
  rw [if_neg h2] at h
  by_cases h3 : c = 94
  · rw [if_pos h3] at h
    split at h
    · exact gtok_num (by omega) h
    · exact gtok_num (by omega) h
  rw [if_neg h3] at h
  by_cases h4 : c = 126
  · rw [if_pos h4] at h
    split at h
    · cases h
      exact ⟨fun e => by simp only [] at e; omega, fun e => by simp only [] at e; omega, fun e => by simp only [] at e; omega, fun _ => by simp only []; omega⟩
    · exact gtok_num (by omega) h
  rw [if_neg h4] at h
  by_cases h5 : c = 64
  · rw [if_pos h5] at h
    exact gtok_num (by omega) h
  rw [if_neg h5] at h
  unfold runTk at h
  obtain ⟨r, hr, rfl⟩ := Option.map_eq_some_iff.1 h
  obtain ⟨bl, g1, g2, g3, g4, g5⟩ := runL_bpt _ _ _ (Nat.le_refl _) hr
  have hne := g5 c t rfl hc (cls_mark (by simpa using h1) h2 h3 h4 h5)
  by_cases hw : 0 < r.wilds
  · rw [if_pos hw]
    exact ⟨fun e => by simp only [] at e; omega, fun _ => ⟨bl, g1, g2, g3.2 hw⟩, fun e => by simp only [] at e; omega, fun e => by simp only [] at e; omega⟩
  · rw [if_neg hw]
    have hlen : 0 < bl.length := List.length_pos_iff.2 hne
    rcases kwd_1or ((c :: t).take r.len) with e | e | e | e | e
    · simp only [e, if_true]
      refine ⟨fun _ => ?_, fun e => by omega, fun e => by omega, fun e => by omega⟩
      intro e2
      rw [e2] at g4
      simp at g4
      omega
    all_goals
      rw [e]
      first | exact gtok_other (k := kwd [65, 78, 68]) (by decide) | exact gtok_other (k := kwd [79, 82]) (by decide) | exact gtok_other (k := kwd [78, 79, 84]) (by decide) | exact gtok_other (k := kwd [84, 79]) (by decide)
theorem scanF_gtok {f : Nat} : ∀ {l : List UInt8} {i : Nat} {la : List Lx}, scanF f l i = (la, none) → ∀ x ∈ la, GTok x.kind x.text x.n := by
  induction f with
  | zero => intro l i la h; simp [scanF] at h
  | succ f ih =>
    intro l i la h
    cases l with
    | nil =>
      rw [scanF] at h
      simp only [Prod.mk.injEq, and_true] at h
      rw [← h]
      intro x hx
      rw [List.mem_singleton] at hx
      subst hx
      exact gtok_other (k := 0) (by decide)
    | cons c t =>
      rw [scanF] at h
      split at h
      · exact ih h
      · rename_i hc
        split at h
        · cases h
        · rename_i k ht
          rcases hr : scanF f ((c :: t).drop k.len) (i + k.len) with ⟨u, _ | z⟩
          · rw [hr] at h
            simp only [ahead, List.singleton_append, Prod.mk.injEq, and_true] at h
            rw [← h]
            intro x hx
            rw [List.mem_cons] at hx
            rcases hx with rfl | hx
            · exact tok_gtok ht hc
            · exact ih hr x hx
          · rw [hr] at h
            simp [ahead] at h
theorem toks_gtok {l : List UInt8} {T : List Lt} (h : Toks l T) : ∀ t ∈ T, GTok t.kind t.text t.n := by
  obtain ⟨la, e, hs, he, hl⟩ := h
  intro t ht
  have h1 : lk t ∈ la.map lkX := by rw [hl]; exact List.mem_map.2 ⟨t, ht, rfl⟩
  obtain ⟨x, hx, hxt⟩ := List.mem_map.1 h1
  have h2 := scanF_gtok hs x (List.mem_append_left _ hx)
  unfold lk lkX at hxt
  simp only [Prod.mk.injEq] at hxt
  rw [← hxt.1, ← hxt.2.1, ← hxt.2.2]; exact h2
theorem wildP_bpt : ∀ (bl : List Bpt), (∀ x ∈ bl, x.ok) → ∀ (i m : Nat) (last : Int), ∃ m' last', wildP (ptC bl) i m last = some (m', last') ∧ m ≤ m' ∧ (m' = m → last' = last)
  | [], _, i, m, last => ⟨m, last, rfl, Nat.le_refl _, fun _ => rfl⟩
  | x :: bl, h, i, m, last => by
    have ih := wildP_bpt bl (fun y hy => h y (List.mem_cons_of_mem _ hy))
    rw [ptC_cons]
    cases x with
    | le c =>
      by_cases hc : c = 42 ∨ c = 63 ∨ c = 92
      · obtain ⟨m', last', e, h1, h2⟩ := ih (i + 2) m last
        refine ⟨m', last', ?_, h1, h2⟩
        rw [le_b2 hc]
        show wildP (92 :: c :: ptC bl) i m last = _
        rw [wildP.eq_def]
        simp only [if_neg (show ¬ (92 : UInt8) = 42 by decide), if_neg (show ¬ (92 : UInt8) = 63 by decide), if_true, if_pos hc]
        exact e
      · obtain ⟨m', last', e, h1, h2⟩ := ih (i + 1) m last
        refine ⟨m', last', ?_, h1, h2⟩
        rw [le_b hc]
        show wildP (c :: ptC bl) i m last = _
        rw [wildP.eq_def]
        simp only [if_neg (fun e => hc (.inl e) : ¬ c = 42), if_neg (fun e => hc (.inr (.inl e)) : ¬ c = 63), if_neg (fun e => hc (.inr (.inr e)) : ¬ c = 92)]
        exact e
    | wi c =>
      have h3 : cls c = 3 := h _ List.mem_cons_self
      have hc : c = 42 ∨ c = 63 := by
        rcases (cls34 c).1 (.inl h3) with e | e | e
        · exact .inl e
        · exact .inr e
        · exact absurd e (wi_ne h3)
      rcases hc with rfl | rfl
      · obtain ⟨m', last', e, h1, h2⟩ := ih (i + 1) (m + 1) i
        refine ⟨m', last', ?_, by omega, fun _ => by omega⟩
        show wildP (42 :: ptC bl) i m last = _
        rw [wildP.eq_def]
        simp only [if_true]
        exact e
      · obtain ⟨m', last', e, h1, h2⟩ := ih (i + 1) (m + 2) last
        refine ⟨m', last', ?_, by omega, fun _ => by omega⟩
        show wildP (63 :: ptC bl) i m last = _
        rw [wildP.eq_def]
        simp only [if_neg (show ¬ (63 : UInt8) = 42 by decide), if_true]
        exact e
theorem first_wild : ∀ (bl : List Bpt), (∀ x ∈ bl, x.ok) → bl.any Bpt.isWi = true → ∃ (s : List UInt8) (c : UInt8) (rest : List Bpt), bl = s.map Bpt.le ++ .wi c :: rest ∧ (c = 42 ∨ c = 63)
  | [], _, h => by simp at h
  | .wi c :: bl, hok, _ => by
    have h3 : cls c = 3 := hok _ List.mem_cons_self
    refine ⟨[], c, bl, rfl, ?_⟩
    rcases (cls34 c).1 (.inl h3) with e | e | e
    · exact .inl e
    · exact .inr e
    · exact absurd e (wi_ne h3)
  | .le c :: bl, hok, h => by
    obtain ⟨s, d, rest, e, hd⟩ := first_wild bl (fun y hy => hok y (List.mem_cons_of_mem _ hy)) (by simpa [Bpt.isWi] using h)
    exact ⟨c :: s, d, rest, by rw [e]; rfl, hd⟩
theorem ptC_app (a b : List Bpt) : ptC (a ++ b) = ptC a ++ ptC b := by unfold ptC; rw [List.map_append, atB_append]
theorem lit_map (s : List UInt8) : ptC (s.map Bpt.le) = litL s := by
  have h := lit_ptC s
  rw [ptC_app] at h
  have h2 : ptC [.wi 42] = [42] := rfl
  rw [h2] at h
  rw [litL_pe]
  exact (List.append_cancel_right h).symm
theorem wildP_lit : ∀ (s r : List UInt8) (i m : Nat) (last : Int), wildP (litL s ++ r) i m last = wildP r (i + (litL s).length) m last
  | [], r, i, m, last => rfl
  | c :: s, r, i, m, last => by
    have e : litL (c :: s) = pesc c ++ litL s := by unfold litL; rw [List.flatMap_cons]
    rw [e, List.append_assoc]
    unfold pesc
    by_cases hc : c = 42 ∨ c = 63 ∨ c = 92
    · rw [if_pos hc]
      show wildP (92 :: c :: (litL s ++ r)) i m last = _
      rw [wildP.eq_def]
      simp only [if_neg (show ¬ (92 : UInt8) = 42 by decide), if_neg (show ¬ (92 : UInt8) = 63 by decide), if_true, if_pos hc]
      rw [wildP_lit s r (i + 2) m last]
      simp only [List.length_append, List.length_cons, List.length_nil]
      rw [show i + 2 + (litL s).length = i + (0 + 1 + 1 + (litL s).length) from by omega]
    · rw [if_neg hc]
      show wildP (c :: (litL s ++ r)) i m last = _
      rw [wildP.eq_def]
      simp only [if_neg (fun e => hc (.inl e) : ¬ c = 42), if_neg (fun e => hc (.inr (.inl e)) : ¬ c = 63), if_neg (fun e => hc (.inr (.inr e)) : ¬ c = 92)]
      rw [wildP_lit s r (i + 1) m last]
      simp only [List.length_append, List.length_cons, List.length_nil]
      rw [show i + 1 + (litL s).length = i + (0 + 1 + (litL s).length) from by omega]
theorem patN_good {bl : List Bpt} (hok : ∀ x ∈ bl, x.ok) (hw : bl.any Bpt.isWi = true) (f : List UInt8) : ∃ kd tx, patN f (ptC bl) = ndLeaf kd f tx 0 ∧ ((kd = 7 ∧ tx = []) ∨ (kd = 3 ∧ tx ≠ []) ∨ (kd = 4 ∧ wildB tx = true)) := by
  obtain ⟨s, c, rest, rfl, hc⟩ := first_wild bl hok hw
  have e : ptC (s.map Bpt.le ++ .wi c :: rest) = litL s ++ c :: ptC rest := by rw [ptC_app, lit_map, ptC_cons]; rfl
  by_cases h42 : c = 42 ∧ rest = []
  · obtain ⟨rfl, rfl⟩ := h42
    rw [e]
    by_cases hs : s = []
    · subst hs
      exact ⟨7, [], rfl, .inl ⟨rfl, rfl⟩⟩
    · exact ⟨3, s, (toks_lit hs).2 f, .inr (.inl ⟨rfl, hs⟩)⟩
  · have hwb : wildB (ptC (s.map Bpt.le ++ .wi c :: rest)) = true := by
      have hrok : ∀ x ∈ rest, x.ok := fun x hx => hok x (List.mem_append_right _ (List.mem_cons_of_mem _ hx))
      rw [e]
      unfold wildB
      rw [wildP_lit, Nat.zero_add]
      rcases hc with rfl | rfl
      · obtain ⟨m', last', e2, h1, h2⟩ := wildP_bpt rest hrok ((litL s).length + 1) 1 (litL s).length
        have e3 : wildP (42 :: ptC rest) (litL s).length 0 (-1) = some (m', last') := by
          rw [wildP.eq_def]; simp only [if_true]; exact e2
        rw [e3]
        simp only [Bool.or_eq_true, Bool.and_eq_true, decide_eq_true_eq]
        by_cases hm : 1 < m'
        · exact .inl hm
        · refine .inr ⟨by omega, ?_⟩
          rw [h2 (by omega), List.length_append, List.length_cons]
          have hr : rest ≠ [] := fun e => h42 ⟨rfl, e⟩
          have hp : 0 < (ptC rest).length := by
            cases rest with
            | nil => exact absurd rfl hr
            | cons x r =>
              rw [ptC_cons, List.length_append]
              have : 0 < x.c.b.length := by
                cases x with
                | wi c => show 0 < [c].length; simp
                | le c =>
                  by_cases hc : c = 42 ∨ c = 63 ∨ c = 92
                  · rw [le_b2 hc]; simp
                  · rw [le_b hc]; simp
              omega
          omega
      · obtain ⟨m', last', e2, h1, h2⟩ := wildP_bpt rest hrok ((litL s).length + 1) 2 (-1)
        have e3 : wildP (63 :: ptC rest) (litL s).length 0 (-1) = some (m', last') := by
          rw [wildP.eq_def]; simp only [if_neg (show ¬ (63 : UInt8) = 42 by decide), if_true]; exact e2
        rw [e3]
        simp only [Bool.or_eq_true, Bool.and_eq_true, decide_eq_true_eq]
        exact .inl (by omega)
    exact ⟨4, _, (toks_wild hwb).2 f, .inr (.inr ⟨rfl, hwb⟩)⟩
end Go.Proofs.YthcldpminmhgkaaDoor
end
