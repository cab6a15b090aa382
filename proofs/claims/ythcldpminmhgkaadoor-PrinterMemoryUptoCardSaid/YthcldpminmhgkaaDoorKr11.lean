/- Merged for a claim by shake.py: Jc Yd Jf Jk Jy Jw Ja Jb Jd -/
import Derived.Test.YthcldpminmhgkaaDoorKrA
import Derived.Deep.AppendLies
import Derived.Deep.RegionLaw
import Derived.Defers
import Derived.Laws.CopyOwn
import Derived.Laws.MakeOwn
import Derived.Laws.OwnMore
import Derived.Lib.AppendStr
import Derived.Recover
import Derived.Test.YthcldpminmhgkaaDoorKr1
import Derived.Test.YthcldpminmhgkaaDoorKr10
import Derived.Test.YthcldpminmhgkaaDoorKr2
import Derived.Test.YthcldpminmhgkaaDoorKr3
import Derived.Test.YthcldpminmhgkaaDoorKr4
import Derived.Test.YthcldpminmhgkaaDoorKr5
import Derived.Test.YthcldpminmhgkaaDoorKr7
import Derived.Test.YthcldpminmhgkaaDoorKr8
import Derived.Test.YthcldpminmhgkaaDoorRows
set_option maxRecDepth 100000
set_option linter.unusedSimpArgs false
set_option linter.unusedVariables false
set_option maxHeartbeats 4000000
section
namespace Go.Proofs.YthcldpminmhgkaaDoor
theorem canonNs_length : ∀ l : List Nd, (canonNs l).length = l.length
 | [] => rfl
 | k :: ks => by rw [canonNs, List.length_cons, canonNs_length ks]; rfl
theorem canonNs_map : ∀ l : List Nd, canonNs l = l.map canonN
 | [] => rfl
 | k :: ks => by rw [canonNs, canonNs_map ks]; rfl
theorem goodNs_all : ∀ l : List Nd, goodNs l = true ↔ ∀ t ∈ l, goodN t = true
 | [] => by simp [goodNs]
 | k :: ks => by simp [goodNs, goodNs_all ks]
theorem canTop_cases (kind : Int) (field text : List UInt8) (n : Int) (lo hi : Bd) (occ : List Int) (cs : List Nd) :
  (∃ c, cs = [c] ∧ (kind = 10 ∨ kind = 11 ∨ kind = 12 ∨ (kind = 9 ∧ n = 0 ∧ occ[0]? = some 0)) ∧ canTop kind field text n lo hi occ cs = c) ∨
  ((cs.length = 1 → ¬ (kind = 10 ∨ kind = 11 ∨ kind = 12 ∨ (kind = 9 ∧ n = 0 ∧ occ[0]? = some 0))) ∧ canTop kind field text n lo hi occ cs = .mk kind field text n lo hi occ cs) := by
 rcases cs with _ | ⟨c, _ | ⟨d, r⟩⟩
 ·exact .inr ⟨fun h => by simp at h, rfl⟩
 ·by_cases h : kind = 10 ∨ kind = 11 ∨ kind = 12 ∨ (kind = 9 ∧ n = 0 ∧ occ[0]? = some 0)
  ·exact .inl ⟨c, rfl, h, by rw [canTop, if_pos h]⟩
  ·exact .inr ⟨fun _ => h, by rw [canTop, if_neg h]⟩
 ·exact .inr ⟨fun h => by simp at h, rfl⟩
mutual
theorem canon_good : ∀ t : Nd, goodN t = true → goodN (canonN t) = true
 | .mk kind field text n lo hi occ ks, h => by
  rw [goodN, Bool.and_eq_true] at h
  have h2 := canons_good ks h.2
  rw [canonN]
  rcases canTop_cases kind field text n lo hi occ (canonNs ks) with ⟨c, hc, _, e⟩ | ⟨_, e⟩
  ·rw [e]
   rw [hc] at h2
   exact (goodNs_all _).1 h2 c (List.mem_singleton.2 rfl)
  ·rw [e, goodN, Bool.and_eq_true, canonNs_length]
   exact ⟨h.1, h2⟩
theorem canons_good : ∀ l : List Nd, goodNs l = true → goodNs (canonNs l) = true
 | [], _ => rfl
 | k :: ks, h => by
  rw [goodNs, Bool.and_eq_true] at h
  rw [canonNs, goodNs, Bool.and_eq_true]
  exact ⟨canon_good k h.1, canons_good ks h.2⟩
end
mutual
theorem canon_wt : ∀ t : Nd, wtN (canonN t) ≤ wtN t
 | .mk kind field text n lo hi occ ks => by
  have h2 := canons_wt ks
  rw [canonN]
  rcases canTop_cases kind field text n lo hi occ (canonNs ks) with ⟨c, hc, _, e⟩ | ⟨hn, e⟩
  ·rw [e, wtN]
   rw [hc, wtNs, wtNs] at h2
   omega
  ·rw [e, wtN, wtN]; omega
theorem canons_wt : ∀ l : List Nd, wtNs (canonNs l) ≤ wtNs l
 | [] => Nat.le_refl _
 | k :: ks => by
  have h := canon_wt k
  have h2 := canons_wt ks
  rw [canonNs, wtNs, wtNs]; omega
end
theorem stop58 : stopB 58 := ⟨.inr (by decide), by decide⟩
theorem toks_word {s : List UInt8} (h : s ≠ []) : Toks (wordL s) [⟨1, s, 0, 0, 0⟩] := Toks.one (word_back h) rfl
theorem toks_z : Toks [122] [⟨1, [122], 0, 0, 0⟩] := ⟨[⟨1, [122], 0, 0, 1⟩], ⟨0, [], 0, 1, 1⟩, by rfl, rfl, rfl⟩
theorem toks_other : Toks [111, 116, 104, 101, 114] [⟨1, [111, 116, 104, 101, 114], 0, 0, 0⟩] := ⟨[⟨1, [111, 116, 104, 101, 114], 0, 0, 5⟩], ⟨0, [], 0, 5, 5⟩, by rfl, rfl, rfl⟩
def LeafT (l : List UInt8) (g : List UInt8 → Nd) : Prop := ∃ T, Toks l T ∧ D .body T 0 (one1 g)
theorem toks_field {f l : List UInt8} {T : List Lt} (hf : f ≠ []) (h : Toks l T) : Toks (wordL f ++ 58 :: l) (⟨1, f, 0, 0, 0⟩ :: ⟨14, [], 0, 0, 0⟩ :: T) :=
 Toks.app stop58 (toks_word hf) (.single (by decide) (by decide) h)
theorem LeafT.group {l : List UInt8} {g : List UInt8 → Nd} (h : LeafT l g) {f : List UInt8} (hf : f ≠ []) :
  Der (wordL f ++ 58 :: (40 :: (([122] ++ 32 :: (l ++ 32 :: ([111, 116, 104, 101, 114] ++ 58 :: l))) ++ [41]))) 1 (ndList 0 [(0, ndLeaf 1 f [122] 0), (0, g f), (0, g [111, 116, 104, 101, 114])]) := by
 obtain ⟨T, hT, hD⟩ := h
 have hT3 := Toks.app stop58 toks_other (Toks.single (k := 14) (by decide) (by decide) hT)
 have hT2 := Toks.app stop32 toks_z (.blank blank32 (.app stop32 hT (.blank blank32 hT3)))
 have hT1 := toks_field hf (toks_paren hT2 .nil)
 have d1 : D .unary [⟨1, [122], 0, 0, 0⟩] 0 (one1 fun f => ndLeaf 1 f [122] 0) := .pieceU (.atomP (.bodyA (.leafB (.word (t := ⟨1, [122], 0, 0, 0⟩) rfl))))
 have d2 : D .unary T 0 (one1 g) := .pieceU (.atomP (.bodyA hD))
 have d3 : D .unary (⟨1, [111, 116, 104, 101, 114], 0, 0, 0⟩ :: ⟨14, [], 0, 0, 0⟩ :: T) 0 (one1 fun _ => g [111, 116, 104, 101, 114]) := .pieceU (.atomP (.field (w := ⟨1, [111, 116, 104, 101, 114], 0, 0, 0⟩) (c := ⟨14, [], 0, 0, 0⟩) rfl rfl hD))
 have d4 := (d1.single.list2 d2.single).list2 d3.single
 have d5 : D .group (tkOpen :: (([⟨1, [122], 0, 0, 0⟩] ++ T ++ ⟨1, [111, 116, 104, 101, 114], 0, 0, 0⟩ :: ⟨14, [], 0, 0, 0⟩ :: T) ++ [tkClose])) 1 _ := .group rfl d4 rfl
 have d6 : D .unary _ 1 (one1 fun _ => ndList 0 [(0, ndLeaf 1 f [122] 0), (0, g f), (0, g [111, 116, 104, 101, 114])]) := .pieceU (.atomP (.field (w := ⟨1, f, 0, 0, 0⟩) (c := ⟨14, [], 0, 0, 0⟩) rfl rfl (.groupB d5)))
 have e : tkOpen :: (([⟨1, [122], 0, 0, 0⟩] ++ T ++ ⟨1, [111, 116, 104, 101, 114], 0, 0, 0⟩ :: ⟨14, [], 0, 0, 0⟩ :: T) ++ [tkClose]) = tkOpen :: (([⟨1, [122], 0, 0, 0⟩] ++ (T ++ ([⟨1, [111, 116, 104, 101, 114], 0, 0, 0⟩] ++ ⟨14, [], 0, 0, 0⟩ :: T))) ++ [tkClose]) := by simp
 rw [e] at d6
 exact der_mk hT1 d6.single rfl
theorem Bd.nil_eq {b : Bd} (h : b.nil = true) : b = bd0 := by
 obtain ⟨o, i, t⟩ := b
 unfold Bd.nil at h
 simp only [Bool.and_eq_true, Bool.not_eq_true', List.isEmpty_iff] at h
 obtain ⟨⟨rfl, rfl⟩, rfl⟩ := h
 rfl
def LeafOk (kind : Int) (text : List UInt8) (n : Int) (lo hi : Bd) : Prop :=
 (kind = 1 ∧ text ≠ [] ∧ n = 0 ∧ lo = bd0 ∧ hi = bd0) ∨ (kind = 2 ∧ 0 ≤ n ∧ n ≤ 999999999 ∧ lo = bd0 ∧ hi = bd0) ∨ (kind = 3 ∧ text ≠ [] ∧ n = 0 ∧ lo = bd0 ∧ hi = bd0) ∨
 (kind = 4 ∧ wildB text = true ∧ n = 0 ∧ lo = bd0 ∧ hi = bd0) ∨ (kind = 5 ∧ text ≠ [] ∧ (n = 1 ∨ n = 2) ∧ lo = bd0 ∧ hi = bd0) ∨ (kind = 6 ∧ text = [] ∧ n = 0 ∧ lo.ok = true ∧ hi.ok = true) ∨
 (kind = 7 ∧ text = [] ∧ n = 0 ∧ lo = bd0 ∧ hi = bd0) ∨ (kind = 8 ∧ text = [] ∧ n = 0 ∧ lo = bd0 ∧ hi = bd0)
theorem numB_iff {n : Int} : numB n = true ↔ 0 ≤ n ∧ n ≤ 999999999 := by
 unfold numB maxNum
 rw [Bool.and_eq_true, decide_eq_true_eq, decide_eq_true_eq]
theorem own_cases {kind n : Int} {field text : List UInt8} {lo hi : Bd} {occ : List Int} {nk : Nat} (h : ownN kind field text n lo hi occ nk = true) :
  (LeafOk kind text n lo hi ∧ occ = [] ∧ nk = 0 ∧ (kind = 8 → field = []) ∧ kind < 9) ∨
  (9 ≤ kind ∧ kind ≤ 15 ∧ field = [] ∧ text = [] ∧ lo = bd0 ∧ hi = bd0 ∧ 0 ≤ n ∧ n ≤ 999999999 ∧ 0 < nk ∧ (kind = 9 → occ.length = nk ∧ ∀ o ∈ occ, 0 ≤ o ∧ o ≤ 2) ∧ (kind ≠ 9 → occ = []) ∧ (kind = 10 ∨ kind = 11 ∨ kind = 12 ∨ kind = 13 → n = 0) ∧ (13 ≤ kind → nk = 1)) := by
 unfold ownN at h
 by_cases c1 : kind = 1 ∨ kind = 3
 ·rw [if_pos c1] at h
  simp only [Bool.and_eq_true, decide_eq_true_eq, Bool.not_eq_true', List.isEmpty_iff] at h
  obtain ⟨⟨⟨⟨⟨h1, h2⟩, h3⟩, h4⟩, h5⟩, h6⟩ := h
  have h7 : text ≠ [] := fun e => by rw [e] at h1; cases h1
  refine .inl ⟨?_, h5, h6, fun e => by omega, by omega⟩
  rcases c1 with c1 | c1
  ·exact .inl ⟨c1, h7, h2, Bd.nil_eq h3, Bd.nil_eq h4⟩
  ·exact .inr (.inr (.inl ⟨c1, h7, h2, Bd.nil_eq h3, Bd.nil_eq h4⟩))
 rw [if_neg c1] at h
 by_cases c2 : kind = 2
 ·rw [if_pos c2] at h
  simp only [Bool.and_eq_true, decide_eq_true_eq, List.isEmpty_iff, numB_iff] at h
  obtain ⟨⟨⟨⟨h2, h3⟩, h4⟩, h5⟩, h6⟩ := h
  exact .inl ⟨.inr (.inl ⟨c2, h2.1, h2.2, Bd.nil_eq h3, Bd.nil_eq h4⟩), h5, h6, fun e => by omega, by omega⟩
 rw [if_neg c2] at h
 by_cases c4 : kind = 4
 ·rw [if_pos c4] at h
  simp only [Bool.and_eq_true, decide_eq_true_eq, List.isEmpty_iff] at h
  obtain ⟨⟨⟨⟨⟨h1, h2⟩, h3⟩, h4⟩, h5⟩, h6⟩ := h
  exact .inl ⟨.inr (.inr (.inr (.inl ⟨c4, h1, h2, Bd.nil_eq h3, Bd.nil_eq h4⟩))), h5, h6, fun e => by omega, by omega⟩
 rw [if_neg c4] at h
 by_cases c5 : kind = 5
 ·rw [if_pos c5] at h
  simp only [Bool.and_eq_true, Bool.or_eq_true, decide_eq_true_eq, Bool.not_eq_true', List.isEmpty_iff] at h
  obtain ⟨⟨⟨⟨⟨h1, h2⟩, h3⟩, h4⟩, h5⟩, h6⟩ := h
  have h7 : text ≠ [] := fun e => by rw [e] at h1; cases h1
  exact .inl ⟨.inr (.inr (.inr (.inr (.inl ⟨c5, h7, h2, Bd.nil_eq h3, Bd.nil_eq h4⟩)))), h5, h6, fun e => by omega, by omega⟩
 rw [if_neg c5] at h
 by_cases c6 : kind = 6
 ·rw [if_pos c6] at h
  simp only [Bool.and_eq_true, decide_eq_true_eq, List.isEmpty_iff] at h
  obtain ⟨⟨⟨⟨⟨h1, h2⟩, h3⟩, h4⟩, h5⟩, h6⟩ := h
  exact .inl ⟨.inr (.inr (.inr (.inr (.inr (.inl ⟨c6, h1, h2, h3, h4⟩))))), h5, h6, fun e => by omega, by omega⟩
 rw [if_neg c6] at h
 by_cases c7 : kind = 7
 ·rw [if_pos c7] at h
  simp only [Bool.and_eq_true, decide_eq_true_eq, List.isEmpty_iff] at h
  obtain ⟨⟨⟨⟨⟨h1, h2⟩, h3⟩, h4⟩, h5⟩, h6⟩ := h
  exact .inl ⟨.inr (.inr (.inr (.inr (.inr (.inr (.inl ⟨c7, h1, h2, Bd.nil_eq h3, Bd.nil_eq h4⟩)))))), h5, h6, fun e => by omega, by omega⟩
 rw [if_neg c7] at h
 by_cases c8 : kind = 8
 ·rw [if_pos c8] at h
  simp only [Bool.and_eq_true, decide_eq_true_eq, List.isEmpty_iff] at h
  obtain ⟨⟨⟨⟨⟨⟨h0, h1⟩, h2⟩, h3⟩, h4⟩, h5⟩, h6⟩ := h
  exact .inl ⟨.inr (.inr (.inr (.inr (.inr (.inr (.inr ⟨c8, h1, h2, Bd.nil_eq h3, Bd.nil_eq h4⟩)))))), h5, h6, fun e => h0, by omega⟩
 rw [if_neg c8] at h
 by_cases c9 : kind = 9
 ·rw [if_pos c9] at h
  simp only [Bool.and_eq_true, decide_eq_true_eq, List.isEmpty_iff, numB_iff, occB, List.all_eq_true] at h
  obtain ⟨⟨⟨⟨⟨⟨⟨h0, h1⟩, h2⟩, h3⟩, h4⟩, h5⟩, h6⟩, h7⟩ := h
  exact .inr ⟨by omega, by omega, h0, h1, Bd.nil_eq h3, Bd.nil_eq h4, h2.1, h2.2, h7, fun _ => ⟨h5, h6⟩, fun e => absurd c9 e, fun e => by omega, fun e => by omega⟩
 rw [if_neg c9] at h
 by_cases c10 : kind = 10 ∨ kind = 11 ∨ kind = 12
 ·rw [if_pos c10] at h
  simp only [Bool.and_eq_true, decide_eq_true_eq, List.isEmpty_iff] at h
  obtain ⟨⟨⟨⟨⟨⟨h0, h1⟩, h2⟩, h3⟩, h4⟩, h5⟩, h6⟩ := h
  exact .inr ⟨by omega, by omega, h0, h1, Bd.nil_eq h3, Bd.nil_eq h4, by omega, by omega, h6, fun e => absurd e c9, fun _ => h5, fun _ => h2, fun e => by omega⟩
 rw [if_neg c10] at h
 by_cases c13 : kind = 13
 ·rw [if_pos c13] at h
  simp only [Bool.and_eq_true, decide_eq_true_eq, List.isEmpty_iff] at h
  obtain ⟨⟨⟨⟨⟨⟨h0, h1⟩, h2⟩, h3⟩, h4⟩, h5⟩, h6⟩ := h
  exact .inr ⟨by omega, by omega, h0, h1, Bd.nil_eq h3, Bd.nil_eq h4, by omega, by omega, by omega, fun e => absurd e c9, fun _ => h5, fun _ => h2, fun _ => h6⟩
 rw [if_neg c13] at h
 by_cases c14 : kind = 14 ∨ kind = 15
 ·rw [if_pos c14] at h
  simp only [Bool.and_eq_true, decide_eq_true_eq, List.isEmpty_iff, numB_iff] at h
  obtain ⟨⟨⟨⟨⟨⟨h0, h1⟩, h2⟩, h3⟩, h4⟩, h5⟩, h6⟩ := h
  exact .inr ⟨by omega, by omega, h0, h1, Bd.nil_eq h3, Bd.nil_eq h4, h2.1, h2.2, by omega, fun e => absurd e c9, fun _ => h5, fun e => by omega, fun _ => h6⟩
 rw [if_neg c14] at h
 cases h
def LvD (t : Nd) (T : List Lt) : Prop :=
 (levN t = 6 ∧ ∃ v, D .atom T (nestN t) v ∧ v [] = [(0, t)]) ∨ (levN t = 5 ∧ ∃ v, D .piece T (nestN t) v ∧ v [] = [(0, t)]) ∨ (levN t = 4 ∧ ∃ v, D .unary T (nestN t) v ∧ v [] = [(0, t)]) ∨
 (levN t = 3 ∧ ∃ v, D .maxes T (nestN t) v ∧ wrapN 12 (v []) = [(0, t)]) ∨ (levN t = 2 ∧ ∃ v, D .ands T (nestN t) v ∧ wrapN 10 (v []) = [(0, t)]) ∨
 (levN t = 1 ∧ ∃ v, D .ors T (nestN t) v ∧ wrapN 11 (v []) = [(0, t)]) ∨ (levN t = 0 ∧ ∃ v, D .list T (nestN t) v ∧ treeN (v []) = t)
def FT (t : Nd) : Prop := ∃ T, Toks (formN t) T ∧ LvD t T
theorem LvD.piece {t : Nd} {T : List Lt} (h : LvD t T) (hl : 5 ≤ levN t) : ∃ v, D .piece T (nestN t) v ∧ v [] = [(0, t)] := by
 rcases h with ⟨e, v, h, hv⟩ | ⟨e, v, h, hv⟩ | ⟨e, h⟩ | ⟨e, h⟩ | ⟨e, h⟩ | ⟨e, h⟩ | ⟨e, h⟩
 ·exact ⟨_, .atomP h, hv⟩
 ·exact ⟨_, h, hv⟩
 all_goals omega
theorem LvD.unary {t : Nd} {T : List Lt} (h : LvD t T) (hl : 4 ≤ levN t) : ∃ v, D .unary T (nestN t) v ∧ v [] = [(0, t)] := by
 by_cases h5 : 5 ≤ levN t
 ·obtain ⟨v, hd, hv⟩ := h.piece h5
  exact ⟨v, .pieceU hd, hv⟩
 ·rcases h with ⟨e, h⟩ | ⟨e, h⟩ | ⟨e, v, h, hv⟩ | ⟨e, h⟩ | ⟨e, h⟩ | ⟨e, h⟩ | ⟨e, h⟩
  ·omega
  ·omega
  ·exact ⟨v, h, hv⟩
  all_goals omega
theorem LvD.maxes {t : Nd} {T : List Lt} (h : LvD t T) (hl : 3 ≤ levN t) : ∃ v, D .maxes T (nestN t) v ∧ wrapN 12 (v []) = [(0, t)] := by
 by_cases h5 : 4 ≤ levN t
 ·obtain ⟨v, hd, hv⟩ := h.unary h5
  exact ⟨v, .maxU hd, by rw [hv]; rfl⟩
 ·rcases h with ⟨e, h⟩ | ⟨e, h⟩ | ⟨e, h⟩ | ⟨e, v, h, hv⟩ | ⟨e, h⟩ | ⟨e, h⟩ | ⟨e, h⟩
  ·omega
  ·omega
  ·omega
  ·exact ⟨v, h, hv⟩
  all_goals omega
theorem LvD.ands {t : Nd} {T : List Lt} (h : LvD t T) (hl : 2 ≤ levN t) : ∃ v, D .ands T (nestN t) v ∧ wrapN 10 (v []) = [(0, t)] := by
 by_cases h5 : 3 ≤ levN t
 ·obtain ⟨v, hd, hv⟩ := h.maxes h5
  exact ⟨_, .andM hd, by rw [hv]; rfl⟩
 ·rcases h with ⟨e, h⟩ | ⟨e, h⟩ | ⟨e, h⟩ | ⟨e, h⟩ | ⟨e, v, h, hv⟩ | ⟨e, h⟩ | ⟨e, h⟩
  ·omega
  ·omega
  ·omega
  ·omega
  ·exact ⟨v, h, hv⟩
  all_goals omega
theorem LvD.ors {t : Nd} {T : List Lt} (h : LvD t T) (hl : 1 ≤ levN t) : ∃ v, D .ors T (nestN t) v ∧ wrapN 11 (v []) = [(0, t)] := by
 by_cases h5 : 2 ≤ levN t
 ·obtain ⟨v, hd, hv⟩ := h.ands h5
  exact ⟨_, .orA hd, by rw [hv]; rfl⟩
 ·rcases h with ⟨e, h⟩ | ⟨e, h⟩ | ⟨e, h⟩ | ⟨e, h⟩ | ⟨e, h⟩ | ⟨e, v, h, hv⟩ | ⟨e, h⟩
  ·omega
  ·omega
  ·omega
  ·omega
  ·omega
  ·exact ⟨v, h, hv⟩
  ·omega
theorem LvD.list {t : Nd} {T : List Lt} (h : LvD t T) : ∃ v, D .list T (nestN t) v ∧ treeN (v []) = t := by
 by_cases h5 : 1 ≤ levN t
 ·obtain ⟨v, hd, hv⟩ := h.ors h5
  exact ⟨_, .one (.clauseO hd), by rw [hv]; rfl⟩
 ·rcases h with ⟨e, h⟩ | ⟨e, h⟩ | ⟨e, h⟩ | ⟨e, h⟩ | ⟨e, h⟩ | ⟨e, h⟩ | ⟨e, v, h, hv⟩
  ·omega
  ·omega
  ·omega
  ·omega
  ·omega
  ·omega
  ·exact ⟨v, h, hv⟩
theorem FT.paren {t : Nd} (h : FT t) : ∃ T v, Toks (40 :: (formN t ++ [41])) T ∧ D .piece T (nestN t + 1) v ∧ v [] = [(0, t)] := by
 obtain ⟨T, hT, hL⟩ := h
 obtain ⟨v, hD, hv⟩ := hL.list
 refine ⟨_, _, toks_paren hT .nil, hD.paren, ?_⟩
 show [((0 : Int), treeN (v []))] = _
 rw [hv]
def bump (t : Nd) (m : Nat) : Nat := nestN t + if levN t < m then 1 else 0
theorem nestNs_cons (kind : Int) (occ : List Int) (k : Nd) (ks : List Nd) : nestNs kind occ (k :: ks) = max (bump k (barK kind (occ.headD 0))) (nestNs kind occ.tail ks) := by rw [nestNs]; rfl
theorem bd0_nil : Bd.nil bd0 = true := rfl
theorem bump_le (t : Nd) (m : Nat) : bump t m ≤ nestN t + 1 := by unfold bump; split <;> omega
def wildR : List UInt8 → Nat → Nat → UInt8 → Option (Nat × Nat × UInt8)
 | [], s, g, z => some (s, g, z)
 | c :: r, s, g, z =>
  if c = 42 then wildR r (s + 1) g 42
  else if c = 63 then wildR r s (g + 1) 63
  else if c = 92 then match r with
   | [] => none
   | d :: r2 => if d = 42 ∨ d = 63 ∨ d = 92 then wildR r2 s g 0 else none
  else wildR r s g c
def wildRB (l : List UInt8) : Bool := match wildR l 0 0 0 with
 | none => false
 | some (s, g, z) => decide (0 < g) || decide (1 < s) || (decide (s = 1) && decide (z ≠ 42))
def WEq (i : Nat) (a : Nat × Int) (b : Nat × Nat × UInt8) : Prop := a.1 = b.1 + 2 * b.2.1 ∧ (b.1 = 0 ∨ (b.2.2 = 42 ↔ a.2 = (i : Int) - 1)) ∧ a.2 < (i : Int)
theorem wild_two : ∀ (N : Nat) (l : List UInt8) (i m : Nat) (last : Int) (s g : Nat) (z : UInt8), l.length ≤ N → WEq i (m, last) (s, g, z) →
  (wildP l i m last = none ∧ wildR l s g z = none) ∨ ∃ a b, wildP l i m last = some a ∧ wildR l s g z = some b ∧ WEq (i + l.length) a b
 | N, [], i, m, last, s, g, z, _, h => .inr ⟨_, _, rfl, rfl, h⟩
 | 0, c :: r, i, m, last, s, g, z, hl, h => by simp at hl
 | N + 1, c :: r, i, m, last, s, g, z, hl, h => by
  have hl2 : r.length ≤ N := by simpa using hl
  obtain ⟨h1, h2, h3⟩ := h
  simp only [] at h1 h2 h3
  by_cases c1 : c = 42
  ·have h4 := wild_two N r (i + 1) (m + 1) i (s + 1) g 42 hl2 ⟨by simp only []; omega, .inr ⟨fun _ => by simp only []; omega, fun _ => rfl⟩, by simp only []; omega⟩
   rw [wildP.eq_def, wildR.eq_def]
   simp only [if_pos c1]
   rcases h4 with ⟨e1, e2⟩ | ⟨a, b, e1, e2, e3⟩
   ·exact .inl ⟨e1, e2⟩
   ·exact .inr ⟨a, b, e1, e2, by rw [List.length_cons, show i + (r.length + 1) = i + 1 + r.length from by omega]; exact e3⟩
  ·by_cases c2 : c = 63
   ·have h4 := wild_two N r (i + 1) (m + 2) last s (g + 1) 63 hl2 ⟨by simp only []; omega, .inr ⟨fun e => absurd (show (63 : UInt8) = 42 from e) (by decide), fun e => by simp only [] at e; omega⟩, by simp only []; omega⟩
    rw [wildP.eq_def, wildR.eq_def]
    simp only [if_neg c1, if_pos c2]
    rcases h4 with ⟨e1, e2⟩ | ⟨a, b, e1, e2, e3⟩
    ·exact .inl ⟨e1, e2⟩
    ·exact .inr ⟨a, b, e1, e2, by rw [List.length_cons, show i + (r.length + 1) = i + 1 + r.length from by omega]; exact e3⟩
   ·by_cases c3 : c = 92
    ·cases r with
     | nil =>
      rw [wildP.eq_def, wildR.eq_def]
      left
      simp only [if_neg c1, if_neg c2, if_pos c3, and_self]
     | cons d r2 =>
      rw [wildP.eq_def, wildR.eq_def]
      simp only [if_neg c1, if_neg c2, if_pos c3]
      by_cases c4 : d = 42 ∨ d = 63 ∨ d = 92
      ·have h4 := wild_two N r2 (i + 2) m last s g 0 (by simp at hl2; omega) ⟨h1, .inr ⟨fun e => absurd (show (0 : UInt8) = 42 from e) (by decide), fun e => by simp only [] at e; omega⟩, by simp only []; omega⟩
       rw [if_pos c4, if_pos c4]
       rcases h4 with ⟨e1, e2⟩ | ⟨a, b, e1, e2, e3⟩
       ·exact .inl ⟨e1, e2⟩
       ·exact .inr ⟨a, b, e1, e2, by rw [List.length_cons, List.length_cons, show i + (r2.length + 1 + 1) = i + 2 + r2.length from by omega]; exact e3⟩
      ·rw [if_neg c4, if_neg c4]
       exact .inl ⟨rfl, rfl⟩
    ·have h4 := wild_two N r (i + 1) m last s g c hl2 ⟨h1, .inr ⟨fun e => absurd e c1, fun e => by simp only [] at e; omega⟩, by simp only []; omega⟩
     rw [wildP.eq_def, wildR.eq_def]
     simp only [if_neg c1, if_neg c2, if_neg c3]
     rcases h4 with ⟨e1, e2⟩ | ⟨a, b, e1, e2, e3⟩
     ·exact .inl ⟨e1, e2⟩
     ·exact .inr ⟨a, b, e1, e2, by rw [List.length_cons, show i + (r.length + 1) = i + 1 + r.length from by omega]; exact e3⟩
theorem wild_same (l : List UInt8) : wildRB l = wildB l := by
 unfold wildRB wildB
 rcases wild_two l.length l 0 0 (-1) 0 0 0 (Nat.le_refl _) (show WEq 0 (0, -1) (0, 0, 0) from ⟨rfl, .inl rfl, by decide⟩) with ⟨e1, e2⟩ | ⟨⟨m, last⟩, ⟨s, g, z⟩, e1, e2, h1, h2, h3⟩
 ·rw [e1, e2]
 ·rw [e1, e2]
  simp only [] at h1 h2 h3 ⊢
  rw [Nat.zero_add] at h2
  rw [Bool.eq_iff_iff]
  simp only [Bool.or_eq_true, Bool.and_eq_true, decide_eq_true_eq]
  by_cases hz : z = 42
  ·simp only [hz, ne_eq, not_true_eq_false, and_false, or_false, true_iff] at h2 ⊢
   omega
  ·simp only [hz, ne_eq, not_false_eq_true, and_true, false_iff] at h2 ⊢
   omega
end Go.Proofs.YthcldpminmhgkaaDoor
end
section
namespace Go.Proofs.YthcldpminmhgkaaDoor
open Go.RowKit
theorem bd_eqIn (a b : Bool) (t : List UInt8) (W : World) : (Op.equalIn 10000 23 (.agg #[.bool a, .bool b, .string (str t)]) (.agg #[.bool false, .bool false, .string ⟨#[]⟩])).run Tryd.prog W = .ok (Bd.nil ⟨a, b, t⟩) W := by
 rw [run_equalIn_agg W 9999 23 _ _ (show Tryd.prog.underlying 23 = some (.struct (Tryd.prog.fieldsOf 23)) from by kernel_rfl) (by kernel_rfl)]
 simp only [Program.fieldsOf, Tryd.underlying23]
 simp [Op.eqFields, go_sem, Tryd.underlying4, Tryd.underlying9]
 have ht : ((str t).toList = (⟨#[]⟩ : ByteArray).toList) ↔ t = [] := by
  rw [ByteArray.toList_eq, ByteArray.toList_eq]; simp [str]
 unfold Bd.nil
 cases a <;> cases b <;> cases t <;> simp_all [str, ByteArray.toList_eq]
theorem bd_eqz (a b : Bool) (t : List UInt8) (W : World) : (binOp .eql 23 (.agg #[.bool a, .bool b, .string (str t)]) (.agg #[.bool false, .bool false, .string ⟨#[]⟩])).run Tryd.prog W = .ok (.bool (Bd.nil ⟨a, b, t⟩)) W := by
 have h := bd_eqIn a b t W
 rw [run_eql_struct, h]; rfl
theorem bd_nez (a b : Bool) (t : List UInt8) (W : World) : (binOp .neq 23 (.agg #[.bool a, .bool b, .string (str t)]) (.agg #[.bool false, .bool false, .string ⟨#[]⟩])).run Tryd.prog W = .ok (.bool (!Bd.nil ⟨a, b, t⟩)) W := by
 have h := bd_eqIn a b t W
 rw [run_neq_struct, h]; rfl
theorem bd_grd (a b : Bool) (t : ByteArray) (op : BinOp) (x y : Operand) (u : Array Value) (W : World) : (eqGuard op 23 x y (.agg #[.bool a, .bool b, .string t]) (.agg u)).run Tryd.prog W = .ok () W :=
 run_eqGuard_agg W op 23 x y _ _ (by kernel_rfl)
theorem str_toList (t : List UInt8) : (str t).toList = t := by rw [ByteArray.toList_eq]; rfl
def BoolRet (b : Bool) (w : World) (e : Ending) (w' : World) : Prop := e = .returned (.bool b) ∧ Below w.heap.size w w'
def Bd.val (b : Bd) : Value := .agg #[.bool b.open_, .bool b.in_, .string (str b.text)]
theorem ret_bool {a b : Bool} (h : a = b) : Ending.returned (.bool a) = .returned (.bool b) := by rw [h]
theorem bound_any (b : Bd) (w : World) : Calls Tryd.prog 52 #[.agg #[.bool b.open_, .bool b.in_, .string (str b.text)]] w fun e w' => e = .returned (.bool b.ok) ∧ w.alloc (.cells #[.bool b.open_, .bool b.in_, .string (str b.text)] 23) = w' := by
 obtain ⟨o, i, t⟩ := b
 simp only []
 cases o <;> cases i
 all_goals
  go_enter Tryd.func52, Tryd.ntmps52
  go_wp2
  all_goals
   go_ret
   exact ⟨ret_bool (by rw [Bool.eq_iff_iff]; simp_all [Bd.ok, str_toList]), rfl⟩
theorem rend_any (b : Bd) (w : World) : Calls Tryd.prog 74 #[.agg #[.bool b.open_, .bool b.in_, .string (str b.text)]] w fun e w' => e = .returned (.bool b.ok) ∧ w.alloc (.cells #[.bool b.open_, .bool b.in_, .string (str b.text)] 23) = w' := by
 obtain ⟨o, i, t⟩ := b
 simp only []
 cases o <;> cases i
 all_goals
  go_enter Tryd.func74, Tryd.ntmps74
  go_wp2
  all_goals
   go_ret
   exact ⟨ret_bool (by rw [Bool.eq_iff_iff]; simp_all [Bd.ok, str_toList]), rfl⟩
theorem rnum_any (n : Int) (w : World) : Calls Tryd.prog 72 #[.int .i64 n] w fun e w' => e = .returned (.bool (numB n)) ∧ w = w' := by
 go_enter Tryd.func72, Tryd.ntmps72
 go_wp2
 all_goals
  go_ret
  exact ⟨ret_bool (by unfold numB maxNum; first | (rw [decide_eq_true ‹0 ≤ n›, Bool.true_and]; done) | (rw [decide_eq_true ‹0 ≤ n›, Bool.true_and]; rfl) | (rw [decide_eq_false (by omega : ¬ 0 ≤ n)]; rfl)), rfl⟩
def bareB (field text : List UInt8) (n : Int) (lo hi : Bd) (on kn : Nat) : Bool := field.isEmpty && text.isEmpty && decide (n = 0) && lo.nil && hi.nil && decide (on = 0) && decide (kn = 0)
theorem bare_any (kind n : Int) (field text : List UInt8) (lo hi : Bd) (oa ka : Option Addr) (on oc kn kc : Nat) (w : World) :
  Calls Tryd.prog 71 #[.agg #[.int .i64 kind, .string (str field), .string (str text), .int .i64 n, .bool lo.open_, .bool lo.in_, .string (str lo.text), .bool hi.open_, .bool hi.in_, .string (str hi.text), .slice oa on oc, .slice ka kn kc]] w fun e w' => e = .returned (.bool (bareB field text n lo hi on kn)) ∧ ((w.alloc (.cells #[.int .i64 kind, .string (str field), .string (str text), .int .i64 n, .bool lo.open_, .bool lo.in_, .string (str lo.text), .bool hi.open_, .bool hi.in_, .string (str hi.text), .slice oa on oc, .slice ka kn kc] 27)).alloc (.cells #[.bool false, .bool false, .string ⟨#[]⟩] 23)) = w' := by
 obtain ⟨l1, l2, l3⟩ := lo
 obtain ⟨r1, r2, r3⟩ := hi
 have q1 := fun W => bd_eqz l1 l2 l3 W
 have q2 := fun W => bd_eqz r1 r2 r3 W
 have q3 := fun op x y u W => bd_grd l1 l2 (str l3) op x y u W
 have q4 := fun op x y u W => bd_grd r1 r2 (str r3) op x y u W
 generalize hlo : Bd.nil ⟨l1, l2, l3⟩ = lb at *
 generalize hhi : Bd.nil ⟨r1, r2, r3⟩ = rb at *
 have HLO := LH hlo; have HHI := LH hhi
 clear hlo hhi
 simp only []
 go_enter Tryd.func71, Tryd.ntmps71
 go_wp2
 all_goals
  go_ret
  refine ⟨ret_bool ?_, by first | rfl | simp_all⟩
  unfold bareB
  rw [HLO.out, HHI.out, Bool.eq_iff_iff]
  clear HLO HHI q1 q2 q3 q4
  simp_all [str_toList]
theorem byte_lit {c : UInt8} {k : Nat} (hk : k < 256) : (((c.toNat : Int) == (k : Int)) = decide (c = UInt8.ofNat k)) ∧ (((c.toNat : Int) != (k : Int)) = !decide (c = UInt8.ofNat k)) := by
 have h : ((c.toNat : Int) == (k : Int)) = decide (c = UInt8.ofNat k) := by
  rw [Bool.eq_iff_iff, beq_iff_eq, decide_eq_true_eq]
  constructor
  ·intro h
   have : c.toNat = k := by omega
   rw [← this, UInt8.ofNat_toNat]
  ·intro h
   rw [h, UInt8.toNat_ofNat']; omega
 exact ⟨h, by rw [bne, h]⟩
theorem drop_at {s : ByteArray} {i : Nat} (h : i < s.size) : s.data.toList.drop i = s[i] :: s.data.toList.drop (i + 1) := List.drop_eq_getElem_cons (by rw [← ba_size]; exact h)
theorem drop_end {s : ByteArray} {i : Nat} (h : ¬ i < s.size) : s.data.toList.drop i = [] := List.drop_eq_nil_of_le (by rw [← ba_size]; omega)
def WdRel (s : ByteArray) (mv lv iv : Value) : Prop := ∃ (i m : Nat) (last : Int), i ≤ s.size ∧ iv = .int .i64 (i : Int) ∧ mv = .int .i64 (m : Int) ∧ lv = .int .i64 last ∧ wildP (s.data.toList.drop i) i m last = wildP s.data.toList 0 0 (-1) ∧ m ≤ 2 * i ∧ -1 ≤ last ∧ last ≤ (i : Int)
theorem wildB_none {l : List UInt8} (h : wildP l 0 0 (-1) = none) : wildB l = false := by unfold wildB; rw [h]
theorem wildB_some {l : List UInt8} {m : Nat} {last : Int} (h : wildP l 0 0 (-1) = some (m, last)) : wildB l = (decide (1 < m) || (decide (m = 1) && decide (last ≠ (l.length : Int) - 1))) := by unfold wildB; rw [h]
theorem pwild_any (s : ByteArray) (w : World) (hs : s.size ≤ 900000000000) :
  Calls Tryd.prog 53 #[.string s] w fun e w' => e = .returned (.bool (wildB s.data.toList)) ∧ w = w' := by
 go_enter Tryd.func53, Tryd.ntmps53
 go_wp2
 go_loop [3, 4, 5] (fun mv lv iv => WdRel s mv lv iv) (fun _ _ iv => s.size - (intOf iv).toNat)
 case atStart => exact ⟨0, 0, -1, Nat.zero_le _, rfl, rfl, rfl, rfl, by omega, by omega, by omega⟩
 case round =>
  obtain ⟨i, m, last, hi, rfl, rfl, rfl, hW, hm, hl1, hl2⟩ := hrel
  have HW := LH hW; clear hW
  have hm0 : (0 : Int) ≤ (m : Int) := by omega
  have hm1 : (m : Int) ≤ 1800000000000 := by omega
  by_cases hlt : i < s.size
  ·have HD := LH (drop_at hlt)
   obtain ⟨c, hc⟩ : ∃ c, c = s[i] := ⟨_, rfl⟩
   rw [← hc] at HD
   have HC := LH hc
   by_cases h42 : c = 42
   ·have e1 : ((s[i].toNat : Int) == 42) = true := by rw [← hc, h42]; rfl
    have HX := LH (show wildP (s.data.toList.drop (i + 1)) (i + 1) (m + 1) i = wildP s.data.toList 0 0 (-1) from by
     rw [← HW.out, HD.out]; conv => rhs; rw [wildP.eq_def]
     simp only [if_pos h42])
    clear hc h42
    go_wp2
    go_round
    case rel => exact ⟨i + 1, m + 1, i, hlt, by go_num, by go_num, rfl, HX.out, by omega, by omega, by omega⟩
    case measure => simp [intOf]; omega
   by_cases h63 : c = 63
   ·have e1 : ((s[i].toNat : Int) == 42) = false := by rw [← hc, h63]; rfl
    have e2 : ((s[i].toNat : Int) == 63) = true := by rw [← hc, h63]; rfl
    have HX := LH (show wildP (s.data.toList.drop (i + 1)) (i + 1) (m + 2) last = wildP s.data.toList 0 0 (-1) from by
     rw [← HW.out, HD.out]; conv => rhs; rw [wildP.eq_def]
     simp only [if_neg h42, if_pos h63])
    clear hc h42 h63
    go_wp2
    go_round
    case rel => exact ⟨i + 1, m + 2, last, hlt, by go_num, by go_num, rfl, HX.out, by omega, by omega, by omega⟩
    case measure => simp [intOf]; omega
   have e1 : ((s[i].toNat : Int) == 42) = false := by rw [← hc]; exact ((byte_lit (c := c) (k := 42) (by decide)).1).trans (decide_eq_false h42)
   have e2 : ((s[i].toNat : Int) == 63) = false := by rw [← hc]; exact ((byte_lit (c := c) (k := 63) (by decide)).1).trans (decide_eq_false h63)
   by_cases h92 : c = 92
   ·have e3 : ((s[i].toNat : Int) == 92) = true := by rw [← hc, h92]; rfl
    by_cases hlt2 : i + 1 < s.size
    ·have HD2 := LH (drop_at hlt2)
     obtain ⟨d, hd⟩ : ∃ d, d = s[i + 1] := ⟨_, rfl⟩
     rw [← hd] at HD2
     have b1 : ((s[i + 1].toNat : Int) != 42) = !decide (d = 42) := by rw [← hd]; exact (byte_lit (c := d) (k := 42) (by decide)).2
     have b2 : ((s[i + 1].toNat : Int) != 63) = !decide (d = 63) := by rw [← hd]; exact (byte_lit (c := d) (k := 63) (by decide)).2
     have b3 : ((s[i + 1].toNat : Int) != 92) = !decide (d = 92) := by rw [← hd]; exact (byte_lit (c := d) (k := 92) (by decide)).2
     have hne : ((i : Int) + 1 == (s.size : Int)) = false := by rw [beq_eq_false_iff_ne]; omega
     have HWX := LH (show (if d = 42 ∨ d = 63 ∨ d = 92 then wildP (s.data.toList.drop (i + 2)) (i + 2) m last else none) = wildP s.data.toList 0 0 (-1) from by
      rw [← HW.out, HD.out, HD2.out]; conv => rhs; rw [wildP.eq_def]
      simp only [if_neg h42, if_neg h63, if_pos h92])
     by_cases hg : d = 42 ∨ d = 63 ∨ d = 92
     ·have HX := LH (show wildP (s.data.toList.drop (i + 2)) (i + 2) m last = wildP s.data.toList 0 0 (-1) from by
       have := HWX.out; rw [if_pos hg] at this; exact this)
      rcases hg with rfl | rfl | rfl
      all_goals
       clear hc hd h42 h63 h92
       simp only [decide_true, Bool.not_true, Bool.not_false] at b1 b2 b3
       first | (rw [show decide ((63 : UInt8) = 42) = false from rfl] at b1) | (rw [show decide ((92 : UInt8) = 42) = false from rfl] at b1; rw [show decide ((92 : UInt8) = 63) = false from rfl] at b2) | skip
       go_wp2
       go_round
       case rel => exact ⟨i + 2, m, last, by omega, by go_num, rfl, rfl, HX.out, by omega, by omega, by omega⟩
       case measure => simp [intOf]; omega
     ·have HN := LH (wildB_none (show wildP s.data.toList 0 0 (-1) = none from by have := HWX.out; rw [if_neg hg] at this; exact this.symm))
      rw [decide_eq_false (fun e => hg (.inl e))] at b1
      rw [decide_eq_false (fun e => hg (.inr (.inl e)))] at b2
      rw [decide_eq_false (fun e => hg (.inr (.inr e)))] at b3
      simp only [Bool.not_false] at b1 b2 b3
      clear hc hd h42 h63 h92 hg
      go_wp2
      go_ret
      exact ⟨ret_bool HN.out.symm, rfl⟩
    ·have hne : ((i : Int) + 1 == (s.size : Int)) = true := by rw [beq_iff_eq]; omega
     have HN := LH (wildB_none (show wildP s.data.toList 0 0 (-1) = none from by
      rw [← HW.out, HD.out, drop_end (by omega : ¬ i + 1 < s.size), wildP.eq_def]; simp only [if_neg h42, if_neg h63, if_pos h92]))
     clear hc h42 h63 h92
     go_wp2
     go_ret
     exact ⟨ret_bool HN.out.symm, rfl⟩
   ·have e3 : ((s[i].toNat : Int) == 92) = false := by rw [← hc]; exact ((byte_lit (c := c) (k := 92) (by decide)).1).trans (decide_eq_false h92)
    have HX := LH (show wildP (s.data.toList.drop (i + 1)) (i + 1) m last = wildP s.data.toList 0 0 (-1) from by
     rw [← HW.out, HD.out]; conv => rhs; rw [wildP.eq_def]
     simp only [if_neg h42, if_neg h63, if_neg h92])
    clear hc h42 h63 h92
    go_wp2
    go_round
    case rel => exact ⟨i + 1, m, last, hlt, by go_num, rfl, rfl, HX.out, by omega, by omega, by omega⟩
    case measure => simp [intOf]; omega
  ·have HB := LH (wildB_some (show wildP s.data.toList 0 0 (-1) = some (m, last) from by rw [← HW.out, drop_end hlt, wildP]))
   have hsz : s.data.toList.length = s.size := by rw [Array.length_toList]; rfl
   rw [hsz] at HB
   have HM := LH (⟨hm0, hm1⟩ : (0 : Int) ≤ (m : Int) ∧ (m : Int) ≤ 1800000000000)
   by_cases g1 : 1 < m
   ·have g2 : (1 : Int) < (m : Int) := by omega
    have HR := LH (show wildB s.data.toList = true from by rw [HB.out, decide_eq_true g1]; rfl)
    go_wp2
    go_ret
    exact ⟨ret_bool HR.out.symm, rfl⟩
   ·have g2 : ¬ (1 : Int) < (m : Int) := by omega
    by_cases g3 : m = 1
    ·have HR := LH (show wildB s.data.toList = decide (last ≠ (s.size : Int) - 1) from by rw [HB.out, decide_eq_false g1, decide_eq_true g3]; rfl)
     have g4 : ((m : Int) == 1) = true := by rw [g3]; rfl
     clear g3
     go_wp2
     go_ret
     exact ⟨ret_bool (by rw [HR.out, Bool.eq_iff_iff]; simp), rfl⟩
    ·have HR := LH (show wildB s.data.toList = false from by rw [HB.out, decide_eq_false g1, decide_eq_false g3]; rfl)
     have g4 : ((m : Int) == 1) = false := by rw [beq_eq_false_iff_ne]; omega
     clear g3
     go_wp2
     go_ret
     exact ⟨ret_bool HR.out.symm, rfl⟩
def WrRel (s : ByteArray) (mv gv lv iv : Value) : Prop := ∃ (i m g : Nat) (z : UInt8), i ≤ s.size ∧ iv = .int .i64 (i : Int) ∧ mv = .int .i64 (m : Int) ∧ gv = .int .i64 (g : Int) ∧ lv = .int .u8 (z.toNat : Int) ∧ wildR (s.data.toList.drop i) m g z = wildR s.data.toList 0 0 0 ∧ m + g ≤ i
theorem wildR_none {l : List UInt8} (h : wildR l 0 0 0 = none) : wildRB l = false := by unfold wildRB; rw [h]
theorem wildR_some {l : List UInt8} {m g : Nat} {z : UInt8} (h : wildR l 0 0 0 = some (m, g, z)) : wildRB l = (decide (0 < g) || decide (1 < m) || (decide (m = 1) && decide (z ≠ 42))) := by unfold wildRB; rw [h]
theorem rwild_any (s : ByteArray) (w : World) (hs : s.size ≤ 900000000000) :
  Calls Tryd.prog 73 #[.string s] w fun e w' => e = .returned (.bool (wildRB s.data.toList)) ∧ w = w' := by
 go_enter Tryd.func73, Tryd.ntmps73
 go_wp2
 go_loop [3, 4, 5, 6] (fun mv gv lv iv => WrRel s mv gv lv iv) (fun _ _ _ iv => s.size - (intOf iv).toNat)
 case atStart => exact ⟨0, 0, 0, 0, Nat.zero_le _, rfl, rfl, rfl, rfl, rfl, Nat.le_refl _⟩
 case round =>
  obtain ⟨i, m, g, z, hi, rfl, rfl, rfl, rfl, hW, hm⟩ := hrel
  have HW := LH hW; clear hW
  have hm0 : (0 : Int) ≤ (m : Int) := by omega
  have hm1 : (m : Int) ≤ 1800000000000 := by omega
  have hg0 : (0 : Int) ≤ (g : Int) := by omega
  have hg1 : (g : Int) ≤ 1800000000000 := by omega
  have hz0 : (0 : Int) ≤ (z.toNat : Int) := by omega
  have hz1 : (z.toNat : Int) < 256 := u8_lt z
  by_cases hlt : i < s.size
  ·have HD := LH (drop_at hlt)
   obtain ⟨c, hc⟩ : ∃ c, c = s[i] := ⟨_, rfl⟩
   rw [← hc] at HD
   have HC := LH hc
   by_cases h42 : c = 42
   ·have e1 : ((s[i].toNat : Int) == 42) = true := by rw [← hc, h42]; rfl
    have HX := LH (show wildR (s.data.toList.drop (i + 1)) (m + 1) g 42 = wildR s.data.toList 0 0 0 from by
     rw [← HW.out, HD.out]; conv => rhs; rw [wildR.eq_def]
     simp only [if_pos h42])
    have H42 := LH h42
    clear hc h42
    go_wp2
    go_round
    case rel => exact ⟨i + 1, m + 1, g, 42, hlt, by go_num, by go_num, rfl, by rw [← HC.out, H42.out], HX.out, by omega⟩
    case measure => simp [intOf]; omega
   by_cases h63 : c = 63
   ·have e1 : ((s[i].toNat : Int) == 42) = false := by rw [← hc, h63]; rfl
    have e2 : ((s[i].toNat : Int) == 63) = true := by rw [← hc, h63]; rfl
    have HX := LH (show wildR (s.data.toList.drop (i + 1)) m (g + 1) 63 = wildR s.data.toList 0 0 0 from by
     rw [← HW.out, HD.out]; conv => rhs; rw [wildR.eq_def]
     simp only [if_neg h42, if_pos h63])
    have H63 := LH h63
    clear hc h42 h63
    go_wp2
    go_round
    case rel => exact ⟨i + 1, m, g + 1, 63, hlt, by go_num, rfl, by go_num, by rw [← HC.out, H63.out], HX.out, by omega⟩
    case measure => simp [intOf]; omega
   have e1 : ((s[i].toNat : Int) == 42) = false := by rw [← hc]; exact ((byte_lit (c := c) (k := 42) (by decide)).1).trans (decide_eq_false h42)
   have e2 : ((s[i].toNat : Int) == 63) = false := by rw [← hc]; exact ((byte_lit (c := c) (k := 63) (by decide)).1).trans (decide_eq_false h63)
   by_cases h92 : c = 92
   ·have e3 : ((s[i].toNat : Int) == 92) = true := by rw [← hc, h92]; rfl
    by_cases hlt2 : i + 1 < s.size
    ·have HD2 := LH (drop_at hlt2)
     obtain ⟨d, hd⟩ : ∃ d, d = s[i + 1] := ⟨_, rfl⟩
     rw [← hd] at HD2
     have b1 : ((s[i + 1].toNat : Int) != 42) = !decide (d = 42) := by rw [← hd]; exact (byte_lit (c := d) (k := 42) (by decide)).2
     have b2 : ((s[i + 1].toNat : Int) != 63) = !decide (d = 63) := by rw [← hd]; exact (byte_lit (c := d) (k := 63) (by decide)).2
     have b3 : ((s[i + 1].toNat : Int) != 92) = !decide (d = 92) := by rw [← hd]; exact (byte_lit (c := d) (k := 92) (by decide)).2
     have hne : (i : Int) + 1 < (s.size : Int) := by omega
     have HWX := LH (show (if d = 42 ∨ d = 63 ∨ d = 92 then wildR (s.data.toList.drop (i + 2)) m g 0 else none) = wildR s.data.toList 0 0 0 from by
      rw [← HW.out, HD.out, HD2.out]; conv => rhs; rw [wildR.eq_def]
      simp only [if_neg h42, if_neg h63, if_pos h92])
     by_cases hg : d = 42 ∨ d = 63 ∨ d = 92
     ·have HX := LH (show wildR (s.data.toList.drop (i + 2)) m g 0 = wildR s.data.toList 0 0 0 from by
       have := HWX.out; rw [if_pos hg] at this; exact this)
      rcases hg with rfl | rfl | rfl
      all_goals
       clear hc hd h42 h63 h92
       simp only [decide_true, Bool.not_true, Bool.not_false] at b1 b2 b3
       first | (rw [show decide ((63 : UInt8) = 42) = false from rfl] at b1) | (rw [show decide ((92 : UInt8) = 42) = false from rfl] at b1; rw [show decide ((92 : UInt8) = 63) = false from rfl] at b2) | skip
       go_wp2
       go_round
       case rel => exact ⟨i + 2, m, g, 0, by omega, by go_num, rfl, rfl, rfl, HX.out, by omega⟩
       case measure => simp [intOf]; omega
     ·have HN := LH (wildR_none (show wildR s.data.toList 0 0 0 = none from by have := HWX.out; rw [if_neg hg] at this; exact this.symm))
      rw [decide_eq_false (fun e => hg (.inl e))] at b1
      rw [decide_eq_false (fun e => hg (.inr (.inl e)))] at b2
      rw [decide_eq_false (fun e => hg (.inr (.inr e)))] at b3
      simp only [Bool.not_false] at b1 b2 b3
      clear hc hd h42 h63 h92 hg
      go_wp2
      go_ret
      exact ⟨ret_bool HN.out.symm, rfl⟩
    ·have hne : ¬ (i : Int) + 1 < (s.size : Int) := by omega
     have HN := LH (wildR_none (show wildR s.data.toList 0 0 0 = none from by
      rw [← HW.out, HD.out, drop_end (by omega : ¬ i + 1 < s.size), wildR.eq_def]; simp only [if_neg h42, if_neg h63, if_pos h92]))
     clear hc h42 h63 h92
     go_wp2
     go_ret
     exact ⟨ret_bool HN.out.symm, rfl⟩
   ·have e3 : ((s[i].toNat : Int) == 92) = false := by rw [← hc]; exact ((byte_lit (c := c) (k := 92) (by decide)).1).trans (decide_eq_false h92)
    have HX := LH (show wildR (s.data.toList.drop (i + 1)) m g c = wildR s.data.toList 0 0 0 from by
     rw [← HW.out, HD.out]; conv => rhs; rw [wildR.eq_def]
     simp only [if_neg h42, if_neg h63, if_neg h92])
    clear hc h42 h63 h92
    go_wp2
    go_round
    case rel => exact ⟨i + 1, m, g, c, hlt, by go_num, rfl, rfl, by rw [HC.out], HX.out, by omega⟩
    case measure => simp [intOf]; omega
  ·have HB := LH (wildR_some (show wildR s.data.toList 0 0 0 = some (m, g, z) from by rw [← HW.out, drop_end hlt, wildR]))
   have HM := LH (⟨hm0, hm1⟩ : (0 : Int) ≤ (m : Int) ∧ (m : Int) ≤ 1800000000000)
   by_cases g0 : 0 < g
   ·have g9 : (0 : Int) < (g : Int) := by omega
    have HR := LH (show wildRB s.data.toList = true from by rw [HB.out, decide_eq_true g0]; rfl)
    go_wp2
    go_ret
    exact ⟨ret_bool HR.out.symm, rfl⟩
   have g9 : ¬ (0 : Int) < (g : Int) := by omega
   by_cases g1 : 1 < m
   ·have g2 : (1 : Int) < (m : Int) := by omega
    have HR := LH (show wildRB s.data.toList = true from by rw [HB.out, decide_eq_true g1, decide_eq_false g0]; rfl)
    go_wp2
    go_ret
    exact ⟨ret_bool HR.out.symm, rfl⟩
   ·have g2 : ¬ (1 : Int) < (m : Int) := by omega
    by_cases g3 : m = 1
    ·have HR := LH (show wildRB s.data.toList = decide (z ≠ 42) from by rw [HB.out, decide_eq_false g1, decide_eq_true g3, decide_eq_false g0]; rfl)
     have g4 : ((m : Int) == 1) = true := by rw [g3]; rfl
     have g5 : ((z.toNat : Int) != 42) = !decide (z = 42) := (byte_lit (c := z) (k := 42) (by decide)).2
     clear g3
     go_wp2
     go_ret
     exact ⟨ret_bool (by rw [HR.out]; simp), rfl⟩
    ·have HR := LH (show wildRB s.data.toList = false from by rw [HB.out, decide_eq_false g1, decide_eq_false g3, decide_eq_false g0]; rfl)
     have g4 : ((m : Int) == 1) = false := by rw [beq_eq_false_iff_ne]; omega
     clear g3
     go_wp2
     go_ret
     exact ⟨ret_bool HR.out.symm, rfl⟩
end Go.Proofs.YthcldpminmhgkaaDoor
end
