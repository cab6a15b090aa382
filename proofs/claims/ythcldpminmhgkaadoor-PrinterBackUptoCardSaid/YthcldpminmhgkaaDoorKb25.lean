/- Merged for a claim by shake.py: Jk Jy Jw Ja -/
import Derived.Test.YthcldpminmhgkaaDoorKbA
import Derived.Deep.AppendLies
import Derived.Deep.RegionLaw
import Derived.Laws.CopyOwn
import Derived.Laws.MakeOwn
import Derived.Laws.OwnMore
import Derived.Lib.AppendStr
import Derived.Test.YthcldpminmhgkaaDoorKb1
import Derived.Test.YthcldpminmhgkaaDoorKb2
import Derived.Test.YthcldpminmhgkaaDoorKb23
import Derived.Test.YthcldpminmhgkaaDoorKb24
import Derived.Test.YthcldpminmhgkaaDoorKb3
import Derived.Test.YthcldpminmhgkaaDoorKb7
import Derived.Test.YthcldpminmhgkaaDoorKb8
import Derived.Test.YthcldpminmhgkaaDoorRows
set_option maxRecDepth 100000
set_option linter.unusedSimpArgs false
set_option linter.unusedVariables false
set_option maxHeartbeats 4000000
section
namespace Go.Proofs.YthcldpminmhgkaaDoor
def LvD (t : Nd) (T : List Lt) : Prop :=
 (levN t = 6 ∧ ∃ v, D .atom T (nestN t) v ∧ v [] = [(0, t)]) ∨ (levN t = 5 ∧ ∃ v, D .piece T (nestN t) v ∧ v [] = [(0, t)]) ∨ (levN t = 4 ∧ ∃ v, D .unary T (nestN t) v ∧ v [] = [(0, t)]) ∨
 (levN t = 3 ∧ ∃ v, D .maxes T (nestN t) v ∧ wrapN 12 (v []) = [(0, t)]) ∨ (levN t = 2 ∧ ∃ v, D .ands T (nestN t) v ∧ wrapN 10 (v []) = [(0, t)]) ∨
 (levN t = 1 ∧ ∃ v, D .ors T (nestN t) v ∧ wrapN 11 (v []) = [(0, t)]) ∨ (levN t = 0 ∧ ∃ v, D .list T (nestN t) v ∧ treeN (v []) = t)
def FT (t : Nd) : Prop := ∃ T, Toks (formN t) T ∧ LvD t T
theorem LvD.piece {t : Nd} {T : List Lt} (h : LvD t T) (hl : 5 ≤ levN t) : ∃ v, D .piece T (nestN t) v ∧ v [] = [(0, t)] := by
 rcases h with ⟨e, v, h, hv⟩ | ⟨e, v, h, hv⟩ | ⟨e, h⟩ | ⟨e, h⟩ | ⟨e, h⟩ | ⟨e, h⟩ | ⟨e, h⟩
 ·exact ⟨_, .atomP h, hv⟩
 ·exact ⟨_, h, hv⟩
 all_goals omega
theorem LvD.unary {t : Nd} {T : List Lt} (h : LvD t T) (hl : 4 ≤ levN t) : ∃ v, D .unary T (nestN t) v ∧ v [] = [(0, t)] := by
 by_cases h5 : 5 ≤ levN t
 ·obtain ⟨v, hd, hv⟩ := h.piece h5
  exact ⟨v, .pieceU hd, hv⟩
 ·rcases h with ⟨e, h⟩ | ⟨e, h⟩ | ⟨e, v, h, hv⟩ | ⟨e, h⟩ | ⟨e, h⟩ | ⟨e, h⟩ | ⟨e, h⟩
  ·omega
  ·omega
  ·exact ⟨v, h, hv⟩
  all_goals omega
theorem LvD.maxes {t : Nd} {T : List Lt} (h : LvD t T) (hl : 3 ≤ levN t) : ∃ v, D .maxes T (nestN t) v ∧ wrapN 12 (v []) = [(0, t)] := by
 by_cases h5 : 4 ≤ levN t
 ·obtain ⟨v, hd, hv⟩ := h.unary h5
  exact ⟨v, .maxU hd, by rw [hv]; rfl⟩
 ·rcases h with ⟨e, h⟩ | ⟨e, h⟩ | ⟨e, h⟩ | ⟨e, v, h, hv⟩ | ⟨e, h⟩ | ⟨e, h⟩ | ⟨e, h⟩
  ·omega
  ·omega
  ·omega
  ·exact ⟨v, h, hv⟩
  all_goals omega
theorem LvD.ands {t : Nd} {T : List Lt} (h : LvD t T) (hl : 2 ≤ levN t) : ∃ v, D .ands T (nestN t) v ∧ wrapN 10 (v []) = [(0, t)] := by
 by_cases h5 : 3 ≤ levN t
 ·obtain ⟨v, hd, hv⟩ := h.maxes h5
  exact ⟨_, .andM hd, by rw [hv]; rfl⟩
 ·rcases h with ⟨e, h⟩ | ⟨e, h⟩ | ⟨e, h⟩ | ⟨e, h⟩ | ⟨e, v, h, hv⟩ | ⟨e, h⟩ | ⟨e, h⟩
  ·omega
  ·omega
  ·omega
  ·omega
  ·exact ⟨v, h, hv⟩
  all_goals omega
theorem LvD.ors {t : Nd} {T : List Lt} (h : LvD t T) (hl : 1 ≤ levN t) : ∃ v, D .ors T (nestN t) v ∧ wrapN 11 (v []) = [(0, t)] := by
 by_cases h5 : 2 ≤ levN t
 ·obtain ⟨v, hd, hv⟩ := h.ands h5
  exact ⟨_, .orA hd, by rw [hv]; rfl⟩
 ·rcases h with ⟨e, h⟩ | ⟨e, h⟩ | ⟨e, h⟩ | ⟨e, h⟩ | ⟨e, h⟩ | ⟨e, v, h, hv⟩ | ⟨e, h⟩
  ·omega
  ·omega
  ·omega
  ·omega
  ·omega
  ·exact ⟨v, h, hv⟩
  ·omega
theorem LvD.list {t : Nd} {T : List Lt} (h : LvD t T) : ∃ v, D .list T (nestN t) v ∧ treeN (v []) = t := by
 by_cases h5 : 1 ≤ levN t
 ·obtain ⟨v, hd, hv⟩ := h.ors h5
  exact ⟨_, .one (.clauseO hd), by rw [hv]; rfl⟩
 ·rcases h with ⟨e, h⟩ | ⟨e, h⟩ | ⟨e, h⟩ | ⟨e, h⟩ | ⟨e, h⟩ | ⟨e, h⟩ | ⟨e, v, h, hv⟩
  ·omega
  ·omega
  ·omega
  ·omega
  ·omega
  ·omega
  ·exact ⟨v, h, hv⟩
theorem FT.paren {t : Nd} (h : FT t) : ∃ T v, Toks (40 :: (formN t ++ [41])) T ∧ D .piece T (nestN t + 1) v ∧ v [] = [(0, t)] := by
 obtain ⟨T, hT, hL⟩ := h
 obtain ⟨v, hD, hv⟩ := hL.list
 refine ⟨_, _, toks_paren hT .nil, hD.paren, ?_⟩
 show [((0 : Int), treeN (v []))] = _
 rw [hv]
def bump (t : Nd) (m : Nat) : Nat := nestN t + if levN t < m then 1 else 0
theorem br_yes {t : Nd} {m : Nat} (h : levN t < m) : brF (decide (levN t < m)) (formN t) = 40 :: (formN t ++ [41]) ∧ bump t m = nestN t + 1 := by
 unfold brF bump
 rw [if_pos (decide_eq_true h), if_pos h]; exact ⟨rfl, rfl⟩
theorem br_no {t : Nd} {m : Nat} (h : ¬ levN t < m) : brF (decide (levN t < m)) (formN t) = formN t ∧ bump t m = nestN t := by
 unfold brF bump
 rw [if_neg (by rw [decide_eq_false h]; decide), if_neg h]; exact ⟨rfl, rfl⟩
theorem FT.at5 {t : Nd} (h : FT t) : ∃ T v, Toks (brF (decide (levN t < 5)) (formN t)) T ∧ D .piece T (bump t 5) v ∧ v [] = [(0, t)] := by
 by_cases hl : levN t < 5
 ·rw [(br_yes hl).1, (br_yes hl).2]; exact h.paren
 ·rw [(br_no hl).1, (br_no hl).2]
  obtain ⟨T, hT, hL⟩ := h
  obtain ⟨v, hD, hv⟩ := hL.piece (by omega)
  exact ⟨T, v, hT, hD, hv⟩
theorem FT.at4 {t : Nd} (h : FT t) : ∃ T v, Toks (brF (decide (levN t < 4)) (formN t)) T ∧ D .unary T (bump t 4) v ∧ v [] = [(0, t)] := by
 by_cases hl : levN t < 4
 ·rw [(br_yes hl).1, (br_yes hl).2]
  obtain ⟨T, v, hT, hD, hv⟩ := h.paren
  exact ⟨T, v, hT, .pieceU hD, hv⟩
 ·rw [(br_no hl).1, (br_no hl).2]
  obtain ⟨T, hT, hL⟩ := h
  obtain ⟨v, hD, hv⟩ := hL.unary (by omega)
  exact ⟨T, v, hT, hD, hv⟩
theorem FT.at3 {t : Nd} (h : FT t) : ∃ T v, Toks (brF (decide (levN t < 3)) (formN t)) T ∧ D .maxes T (bump t 3) v ∧ wrapN 12 (v []) = [(0, t)] := by
 by_cases hl : levN t < 3
 ·rw [(br_yes hl).1, (br_yes hl).2]
  obtain ⟨T, v, hT, hD, hv⟩ := h.paren
  exact ⟨T, v, hT, .maxU (.pieceU hD), by rw [hv]; rfl⟩
 ·rw [(br_no hl).1, (br_no hl).2]
  obtain ⟨T, hT, hL⟩ := h
  obtain ⟨v, hD, hv⟩ := hL.maxes (by omega)
  exact ⟨T, v, hT, hD, hv⟩
theorem FT.at2 {t : Nd} (h : FT t) : ∃ T v, Toks (brF (decide (levN t < 2)) (formN t)) T ∧ D .ands T (bump t 2) v ∧ wrapN 10 (v []) = [(0, t)] := by
 by_cases hl : levN t < 2
 ·rw [(br_yes hl).1, (br_yes hl).2]
  obtain ⟨T, v, hT, hD, hv⟩ := h.paren
  exact ⟨T, _, hT, .andM (.maxU (.pieceU hD)), by rw [hv]; rfl⟩
 ·rw [(br_no hl).1, (br_no hl).2]
  obtain ⟨T, hT, hL⟩ := h
  obtain ⟨v, hD, hv⟩ := hL.ands (by omega)
  exact ⟨T, v, hT, hD, hv⟩
theorem FT.at1 {t : Nd} (h : FT t) : ∃ T v, Toks (brF (decide (levN t < 1)) (formN t)) T ∧ D .ors T (bump t 1) v ∧ wrapN 11 (v []) = [(0, t)] := by
 by_cases hl : levN t < 1
 ·rw [(br_yes hl).1, (br_yes hl).2]
  obtain ⟨T, v, hT, hD, hv⟩ := h.paren
  exact ⟨T, _, hT, .orA (.andM (.maxU (.pieceU hD))), by rw [hv]; rfl⟩
 ·rw [(br_no hl).1, (br_no hl).2]
  obtain ⟨T, hT, hL⟩ := h
  obtain ⟨v, hD, hv⟩ := hL.ors (by omega)
  exact ⟨T, v, hT, hD, hv⟩
theorem nestNs_cons (kind : Int) (occ : List Int) (k : Nd) (ks : List Nd) : nestNs kind occ (k :: ks) = max (bump k (barK kind (occ.headD 0))) (nestNs kind occ.tail ks) := by rw [nestNs]; rfl
theorem chain_rest {p : Pt} {kind : Int} {M : List UInt8} {mk : Lt} (hk9 : kind ≠ 9) (hsep : sepF kind = 32 :: (M ++ [32])) (hM : Toks M [mk]) :
  ∀ (ks : List Nd) (P : List UInt8) (A : List Lt) (n : Nat) (v : Vl),
   (∀ k ∈ ks, ∃ T, Toks (brF (decide (levN k < barK kind 0)) (formN k)) T ∧ ∀ (A : List Lt) (n : Nat) (v : Vl), D p A n v → ∃ v', D p (A ++ mk :: T) (max n (bump k (barK kind 0))) v' ∧ v' [] = v [] ++ [(0, k)]) →
   Toks P A → D p A n v → ∃ B v', Toks (P ++ formNs kind false [] ks) B ∧ D p B (max n (nestNs kind [] ks)) v' ∧ v' [] = v [] ++ ks.map fun k => ((0 : Int), k)
 | [], P, A, n, v, hks, hP, hD => by
  rw [formNs, nestNs, List.append_nil, Nat.max_zero]
  exact ⟨A, v, hP, hD, by simp⟩
 | k :: ks, P, A, n, v, hks, hP, hD => by
  obtain ⟨T, hT, hstep⟩ := hks k List.mem_cons_self
  obtain ⟨v2, hD2, hv2⟩ := hstep A n v hD
  have hP2 : Toks (P ++ 32 :: (M ++ 32 :: brF (decide (levN k < barK kind 0)) (formN k))) (A ++ ([mk] ++ T)) := .app stop32 hP (.blank blank32 (.app stop32 hM (.blank blank32 hT)))
  obtain ⟨B, v3, hB, hD3, hv3⟩ := chain_rest hk9 hsep hM ks _ _ _ _ (fun x hx => hks x (List.mem_cons_of_mem _ hx)) hP2 hD2
  refine ⟨B, v3, ?_, ?_, ?_⟩
  ·rw [formNs, if_neg (by decide), if_neg hk9, hsep]
   have e : P ++ (32 :: (M ++ [32]) ++ [] ++ brF (decide (levN k < barK kind (([] : List Int).headD 0))) (formN k) ++ formNs kind false ([] : List Int).tail ks) = P ++ 32 :: (M ++ 32 :: brF (decide (levN k < barK kind 0)) (formN k)) ++ formNs kind false [] ks := by
    simp
   rw [e]; exact hB
  ·rw [nestNs_cons, ← Nat.max_assoc]; exact hD3
  ·rw [hv3, hv2, List.append_assoc]; rfl
theorem wrap_many {k : Int} {l : List (Int × Nd)} (h : l.length ≠ 1) : wrapN k l = [(0, ndKids k 0 (l.map (·.2)))] := by
 rcases l with _ | ⟨a, _ | ⟨b, r⟩⟩
 ·rfl
 ·exact absurd rfl h
 ·rfl
theorem map_snd (ks : List Nd) : (ks.map fun k => ((0 : Int), k)).map (·.2) = ks := by rw [List.map_map]; exact List.map_id ks
theorem chain_all {p : Pt} {kind : Int} {M : List UInt8} {mk : Lt} {ks : List Nd} (hk9 : kind ≠ 9) (hsep : sepF kind = 32 :: (M ++ [32])) (hM : Toks M [mk]) (h2 : ks ≠ [])
  (h0 : ∀ k ∈ ks, ∃ T v, Toks (brF (decide (levN k < barK kind 0)) (formN k)) T ∧ D p T (bump k (barK kind 0)) v ∧ v [] = [(0, k)])
  (hks : ∀ k ∈ ks, ∃ T, Toks (brF (decide (levN k < barK kind 0)) (formN k)) T ∧ ∀ (A : List Lt) (n : Nat) (v : Vl), D p A n v → ∃ v', D p (A ++ mk :: T) (max n (bump k (barK kind 0))) v' ∧ v' [] = v [] ++ [(0, k)]) :
  ∃ T v, Toks (formNs kind true [] ks) T ∧ D p T (nestNs kind [] ks) v ∧ v [] = ks.map fun k => ((0 : Int), k) := by
 cases ks with
 | nil => exact absurd rfl h2
 | cons k ks =>
  obtain ⟨T, v, hT, hD, hv⟩ := h0 k List.mem_cons_self
  obtain ⟨B, v3, hB, hD3, hv3⟩ := chain_rest hk9 hsep hM ks _ _ _ _ (fun x hx => hks x (List.mem_cons_of_mem _ hx)) hT hD
  refine ⟨B, v3, ?_, ?_, ?_⟩
  ·rw [formNs, if_pos rfl, if_neg hk9]; exact hB
  ·rw [nestNs_cons]; exact hD3
  ·rw [hv3, hv]; rfl
theorem maxes_toks {ks : List Nd} (h2 : ks ≠ []) (h : ∀ k ∈ ks, FT k) : ∃ T v, Toks (formNs 12 true [] ks) T ∧ D .maxes T (nestNs 12 [] ks) v ∧ v [] = ks.map fun k => ((0 : Int), k) := by
 refine chain_all (p := .maxes) (M := [124]) (mk := tkMark 17) (by decide) rfl toks_bar h2 (fun k hk => ?_) (fun k hk => ?_)
 ·obtain ⟨T, v, hT, hD, hv⟩ := (h k hk).at4
  exact ⟨T, v, hT, .maxU hD, hv⟩
 ·obtain ⟨T, v, hT, hD, hv⟩ := (h k hk).at4
  refine ⟨T, hT, fun A n u hA => ⟨_, .bar hA rfl hD, ?_⟩⟩
  show _ ++ v [] = _
  rw [hv]
theorem ands_toks {ks : List Nd} (h2 : ks ≠ []) (h : ∀ k ∈ ks, FT k) : ∃ T v, Toks (formNs 10 true [] ks) T ∧ D .ands T (nestNs 10 [] ks) v ∧ v [] = ks.map fun k => ((0 : Int), k) := by
 refine chain_all (p := .ands) (M := [65, 78, 68]) (mk := tkMark 4) (by decide) rfl toks_and h2 (fun k hk => ?_) (fun k hk => ?_)
 ·obtain ⟨T, v, hT, hD, hv⟩ := (h k hk).at3
  exact ⟨T, _, hT, .andM hD, hv⟩
 ·obtain ⟨T, v, hT, hD, hv⟩ := (h k hk).at3
  refine ⟨T, hT, fun A n u hA => ⟨_, .and hA rfl hD, ?_⟩⟩
  show _ ++ wrapN 12 (v []) = _
  rw [hv]
theorem ors_toks {ks : List Nd} (h2 : ks ≠ []) (h : ∀ k ∈ ks, FT k) : ∃ T v, Toks (formNs 11 true [] ks) T ∧ D .ors T (nestNs 11 [] ks) v ∧ v [] = ks.map fun k => ((0 : Int), k) := by
 refine chain_all (p := .ors) (M := [79, 82]) (mk := tkMark 5) (by decide) rfl toks_or h2 (fun k hk => ?_) (fun k hk => ?_)
 ·obtain ⟨T, v, hT, hD, hv⟩ := (h k hk).at2
  exact ⟨T, _, hT, .orA hD, hv⟩
 ·obtain ⟨T, v, hT, hD, hv⟩ := (h k hk).at2
  refine ⟨T, hT, fun A n u hA => ⟨_, .or hA rfl hD, ?_⟩⟩
  show _ ++ wrapN 10 (v []) = _
  rw [hv]
theorem clause_toks {k : Nd} {o : Int} (h : FT k) (ho : 0 ≤ o ∧ o ≤ 2) : ∃ T v, Toks (signF o ++ brF (decide (levN k < barK 9 o)) (formN k)) T ∧ D .clause T (bump k (barK 9 o)) v ∧ v [] = [(o, k)] := by
 by_cases h0 : o = 0
 ·subst h0
  obtain ⟨T, v, hT, hD, hv⟩ := h.at1
  exact ⟨T, _, hT, .clauseO hD, hv⟩
 ·have hb : barK 9 o = 4 := by unfold barK; rw [if_pos rfl, if_neg h0]
  rw [hb]
  obtain ⟨T, v, hT, hD, hv⟩ := h.at4
  by_cases h1 : o = 1
  ·subst h1
   refine ⟨_, _, .single (k := 15) (by decide) (by decide) hT, .sign (s := ⟨15, [], 0, 0, 0⟩) (.inl rfl) hD, ?_⟩
   show (v []).map _ = _
   rw [hv]; rfl
  ·obtain rfl : o = 2 := by omega
   refine ⟨_, _, .single (k := 16) (by decide) (by decide) hT, .sign (s := ⟨16, [], 0, 0, 0⟩) (.inr rfl) hD, ?_⟩
   show (v []).map _ = _
   rw [hv]; rfl
theorem list_rest : ∀ (ks : List Nd) (occ : List Int) (P : List UInt8) (A : List Lt) (n : Nat) (v : Vl), occ.length = ks.length → (∀ o ∈ occ, 0 ≤ o ∧ o ≤ 2) → (∀ k ∈ ks, FT k) → Toks P A → D .list A n v →
  ∃ B v', Toks (P ++ formNs 9 false occ ks) B ∧ D .list B (max n (nestNs 9 occ ks)) v' ∧ v' [] = v [] ++ occ.zip ks
 | [], occ, P, A, n, v, hl, ho, hks, hP, hD => by
  obtain rfl : occ = [] := List.eq_nil_of_length_eq_zero hl
  rw [formNs, nestNs, List.append_nil, Nat.max_zero]
  exact ⟨A, v, hP, hD, by simp⟩
 | k :: ks, [], P, A, n, v, hl, ho, hks, hP, hD => by simp at hl
 | k :: ks, o :: occ, P, A, n, v, hl, ho, hks, hP, hD => by
  obtain ⟨T, u, hT, hC, hu⟩ := clause_toks (hks k List.mem_cons_self) (ho o List.mem_cons_self)
  have hP2 : Toks (P ++ 32 :: (signF o ++ brF (decide (levN k < barK 9 o)) (formN k))) (A ++ T) := .app stop32 hP (.blank blank32 hT)
  have hD2 := D.more hD hC
  obtain ⟨B, v3, hB, hD3, hv3⟩ := list_rest ks occ _ _ _ _ (by simpa using hl) (fun x hx => ho x (List.mem_cons_of_mem _ hx)) (fun x hx => hks x (List.mem_cons_of_mem _ hx)) hP2 hD2
  refine ⟨B, v3, ?_, ?_, ?_⟩
  ·rw [formNs, if_neg (by decide), if_pos rfl]
   have e : P ++ (sepF 9 ++ signF ((o :: occ).headD 0) ++ brF (decide (levN k < barK 9 ((o :: occ).headD 0))) (formN k) ++ formNs 9 false (o :: occ).tail ks) = P ++ 32 :: (signF o ++ brF (decide (levN k < barK 9 o)) (formN k)) ++ formNs 9 false occ ks := by
    simp [sepF]
   rw [e]; exact hB
  ·rw [nestNs_cons, ← Nat.max_assoc]; exact hD3
  ·rw [hv3]
   show (v [] ++ u []) ++ _ = _
   rw [hu, List.append_assoc]; rfl
theorem list_toks {ks : List Nd} {occ : List Int} (h2 : ks ≠ []) (hl : occ.length = ks.length) (ho : ∀ o ∈ occ, 0 ≤ o ∧ o ≤ 2) (hks : ∀ k ∈ ks, FT k) :
  ∃ T v, Toks (formNs 9 true occ ks) T ∧ D .list T (nestNs 9 occ ks) v ∧ v [] = occ.zip ks := by
 cases ks with
 | nil => exact absurd rfl h2
 | cons k ks =>
  cases occ with
  | nil => simp at hl
  | cons o occ =>
   obtain ⟨T, u, hT, hC, hu⟩ := clause_toks (hks k List.mem_cons_self) (ho o List.mem_cons_self)
   obtain ⟨B, v3, hB, hD3, hv3⟩ := list_rest ks occ _ _ _ _ (by simpa using hl) (fun x hx => ho x (List.mem_cons_of_mem _ hx)) (fun x hx => hks x (List.mem_cons_of_mem _ hx)) hT (.one hC)
   refine ⟨B, v3, ?_, ?_, ?_⟩
   ·rw [formNs, if_pos rfl, if_pos rfl]; exact hB
   ·rw [nestNs_cons]; exact hD3
   ·rw [hv3, hu]; rfl
theorem zip_fst {α β : Type} : ∀ (a : List α) (b : List β), a.length = b.length → (a.zip b).map (·.1) = a
 | [], [], _ => rfl
 | x :: a, [], h => by simp at h
 | [], y :: b, h => by simp at h
 | x :: a, y :: b, h => by rw [List.zip_cons_cons, List.map_cons, zip_fst a b (by simpa using h)]
theorem zip_snd {α β : Type} : ∀ (a : List α) (b : List β), a.length = b.length → (a.zip b).map (·.2) = b
 | [], [], _ => rfl
 | x :: a, [], h => by simp at h
 | [], y :: b, h => by simp at h
 | x :: a, y :: b, h => by rw [List.zip_cons_cons, List.map_cons, zip_snd a b (by simpa using h)]
theorem form_step {kind n : Int} {field text : List UInt8} {lo hi : Bd} {occ : List Int} {ks : List Nd} (ho : ownN kind field text n lo hi occ ks.length = true) (hc : CanN (.mk kind field text n lo hi occ ks)) (ih : ∀ k ∈ ks, FT k) : FT (.mk kind field text n lo hi occ ks) := by
 have hcan := (can_kids hc).2
 rcases own_cases ho with ⟨hL, rfl, h0, h8, h9⟩ | ⟨h9, h15, rfl, rfl, rfl, rfl, hn0, hn1, hpos, hocc, hoc, hnn, h13⟩
 ·obtain rfl : ks = [] := List.eq_nil_of_length_eq_zero h0
  have hnest : nestN (.mk kind field text n lo hi [] []) = 0 := by
   rw [nestN, nestNs]
   unfold deepK
   rw [if_neg (by omega)]
  have hlev : levN (.mk kind field text n lo hi [] []) = 6 := by
   show levK kind n = 6
   unfold levK
   rw [if_neg (by omega), if_neg (by omega), if_neg (by omega), if_neg (by omega), if_neg (by omega), if_neg (by omega)]
  by_cases hk8 : kind = 8
  ·obtain rfl := h8 hk8
   subst hk8
   rcases hL with ⟨h, _⟩ | ⟨h, _⟩ | ⟨h, _⟩ | ⟨h, _⟩ | ⟨h, _⟩ | ⟨h, _⟩ | ⟨h, _⟩ | ⟨_, rfl, rfl, rfl, rfl⟩
   any_goals omega
   refine ⟨[⟨2, [42], 0, 0, 0⟩] ++ [⟨14, [], 0, 0, 0⟩, ⟨2, [42], 0, 0, 0⟩], ?_, .inl ⟨rfl, _, .all (s := ⟨2, [42], 0, 0, 0⟩) (c := ⟨14, [], 0, 0, 0⟩) (t := ⟨2, [42], 0, 0, 0⟩) rfl rfl rfl, rfl⟩⟩
   exact Toks.app stop58 toks_star (.single (k := 14) (by decide) (by decide) toks_star)
  ·obtain ⟨T, hT, hD⟩ := leaf_toks hL hk8
   have hf : formN (.mk kind field text n lo hi [] []) = headF field ++ leafF kind text n lo hi := by rw [formN, if_pos h9, if_neg hk8]
   by_cases hfd : field = []
   ·subst hfd
    refine ⟨T, by rw [hf]; exact hT, .inl ⟨hlev, one1 fun f => .mk kind f text n lo hi [] [], ?_, ?_⟩⟩
    ·rw [hnest]; exact .bodyA hD
    ·rfl
   ·refine ⟨⟨1, field, 0, 0, 0⟩ :: ⟨14, [], 0, 0, 0⟩ :: T, ?_, .inl ⟨hlev, fun _ => one1 (fun f => .mk kind f text n lo hi [] []) field, ?_, ?_⟩⟩
    ·rw [hf]
     unfold headF
     rw [if_neg hfd, List.append_assoc]
     exact toks_field hfd hT
    ·rw [hnest]
     exact .field (w := ⟨1, field, 0, 0, 0⟩) (c := ⟨14, [], 0, 0, 0⟩) rfl rfl hD
    ·rfl
 ·have hf : formN (.mk kind [] [] n bd0 bd0 occ ks) = aroundF kind n (formNs kind true occ ks) := by rw [formN, if_neg (by omega)]
  have hk0 : ks ≠ [] := fun e => by rw [e] at hpos; exact absurd hpos (Nat.lt_irrefl _)
  have hnat : n.toNat ≤ 999999999 := by omega
  have hnn2 : ((n.toNat : Nat) : Int) = n := by omega
  have hkk : kind = 9 ∨ kind = 10 ∨ kind = 11 ∨ kind = 12 ∨ kind = 13 ∨ kind = 14 ∨ kind = 15 := by omega
  rcases hkk with rfl | rfl | rfl | rfl | rfl | rfl | rfl
  ·obtain ⟨hol, ho2⟩ := hocc rfl
   obtain ⟨T, v, hT, hD, hv⟩ := list_toks hk0 hol ho2 ih
   by_cases hn : 0 < n
   ·refine ⟨tkOpen :: (T ++ tkClose :: [⟨21, [], (n.toNat : Int), 0, 0⟩]), ?_, .inl ⟨?_, fun f => [(0, if 0 < ((n.toNat : Nat) : Int) then ndList (n.toNat : Int) (v f) else treeN (v f))], .bodyA (.groupB ?_), ?_⟩⟩
    ·rw [hf]
     unfold aroundF
     rw [if_pos rfl, if_pos hn]
     exact toks_paren hT (toks_least hnat)
    ·show levK 9 n = 6
     unfold levK
     rw [if_pos rfl, if_pos hn]
    ·have e : nestN (.mk 9 [] [] n bd0 bd0 occ ks) = nestNs 9 occ ks + 1 := by
      rw [nestN]; unfold deepK; rw [if_pos (.inr (.inr (.inr ⟨rfl, hn⟩)))]
     rw [e]
     exact .least (o := tkOpen) (c := tkClose) (l := ⟨21, [], (n.toNat : Int), 0, 0⟩) rfl hD rfl rfl
    ·show [((0 : Int), if 0 < ((n.toNat : Nat) : Int) then ndList (n.toNat : Int) (v []) else treeN (v []))] = _
     rw [hnn2, if_pos hn, hv]
     unfold ndList
     rw [zip_fst _ _ hol, zip_snd _ _ hol]
   ·obtain rfl : n = 0 := by omega
    refine ⟨T, ?_, .inr (.inr (.inr (.inr (.inr (.inr ⟨rfl, v, ?_, ?_⟩)))))⟩
    ·rw [hf]; exact hT
    ·have e : nestN (.mk 9 [] [] 0 bd0 bd0 occ ks) = nestNs 9 occ ks := by rw [nestN]; rfl
     rw [e]; exact hD
    ·rw [hv]
     have e : treeN (occ.zip ks) = ndList 0 (occ.zip ks) := by
      rcases occ with _ | ⟨o, occ⟩
      ·cases ks with
       | nil => exact absurd rfl hk0
       | cons k ks => simp at hol
      ·rcases ks with _ | ⟨k, ks⟩
       ·exact absurd rfl hk0
       ·rcases ks with _ | ⟨k2, ks⟩
        ·rcases occ with _ | ⟨o2, occ⟩
         ·have ho0 : o ≠ 0 := fun e => hcan rfl (.inr (.inr (.inr ⟨rfl, rfl, by rw [e]; rfl⟩)))
          show treeN [(o, k)] = _
          unfold treeN
          split
          ·rename_i x e
           injection e with e _
           injection e with e _
           exact absurd e ho0
          ·rfl
         ·simp at hol
        ·rcases occ with _ | ⟨o2, occ⟩
         ·simp at hol
         ·show treeN ((o, k) :: (o2, k2) :: occ.zip ks) = _
          unfold treeN
          split
          ·rename_i x e; simp at e
          ·rfl
     rw [e]
     unfold ndList
     rw [zip_fst _ _ hol, zip_snd _ _ hol]
  ·obtain rfl := hoc (by decide)
   obtain rfl := hnn (.inl rfl)
   obtain ⟨T, v, hT, hD, hv⟩ := ands_toks hk0 ih
   refine ⟨T, by rw [hf]; exact hT, .inr (.inr (.inr (.inr (.inl ⟨rfl, v, ?_, ?_⟩))))⟩
   ·have e : nestN (.mk 10 [] [] 0 bd0 bd0 [] ks) = nestNs 10 [] ks := by rw [nestN]; rfl
    rw [e]; exact hD
   ·rw [hv, wrap_many (by rw [List.length_map]; exact fun e => hcan e (.inl rfl)), map_snd]; rfl
  ·obtain rfl := hoc (by decide)
   obtain rfl := hnn (.inr (.inl rfl))
   obtain ⟨T, v, hT, hD, hv⟩ := ors_toks hk0 ih
   refine ⟨T, by rw [hf]; exact hT, .inr (.inr (.inr (.inr (.inr (.inl ⟨rfl, v, ?_, ?_⟩)))))⟩
   ·have e : nestN (.mk 11 [] [] 0 bd0 bd0 [] ks) = nestNs 11 [] ks := by rw [nestN]; rfl
    rw [e]; exact hD
   ·rw [hv, wrap_many (by rw [List.length_map]; exact fun e => hcan e (.inr (.inl rfl))), map_snd]; rfl
  ·obtain rfl := hoc (by decide)
   obtain rfl := hnn (.inr (.inr (.inl rfl)))
   obtain ⟨T, v, hT, hD, hv⟩ := maxes_toks hk0 ih
   refine ⟨T, by rw [hf]; exact hT, .inr (.inr (.inr (.inl ⟨rfl, v, ?_, ?_⟩)))⟩
   ·have e : nestN (.mk 12 [] [] 0 bd0 bd0 [] ks) = nestNs 12 [] ks := by rw [nestN]; rfl
    rw [e]; exact hD
   ·rw [hv, wrap_many (by rw [List.length_map]; exact fun e => hcan e (.inr (.inr (.inl rfl)))), map_snd]; rfl
  all_goals
   obtain rfl := hoc (by decide)
   obtain ⟨k, rfl⟩ : ∃ k, ks = [k] := by
    have := h13 (by decide)
    rcases ks with _ | ⟨k, _ | ⟨k2, ks⟩⟩
    ·cases this
    ·exact ⟨k, rfl⟩
    ·simp at this
   have hk := ih k (List.mem_singleton.2 rfl)
  ·obtain rfl := hnn (.inr (.inr (.inr rfl)))
   obtain ⟨T, v, hT, hD, hv⟩ := hk.at4
   refine ⟨tkNot :: T, ?_, .inr (.inr (.inl ⟨rfl, fun f => [(0, ndKids 13 0 ((v f).map (·.2)))], ?_, ?_⟩))⟩
   ·rw [hf]
    show Toks ([78, 79, 84] ++ 32 :: (brF (decide (levN k < 4)) (formN k) ++ [])) ([tkNot] ++ T)
    rw [List.append_nil]
    exact .app stop32 toks_not (.blank blank32 hT)
   ·have e : nestN (.mk 13 [] [] 0 bd0 bd0 [] [k]) = bump k 4 + 1 := by rw [nestN, nestNs_cons, nestNs, Nat.max_zero]; rfl
    rw [e]
    exact .not (t := tkNot) rfl hD
   ·show [((0 : Int), ndKids 13 0 ((v []).map (·.2)))] = _
    rw [hv]; rfl
  ·obtain ⟨T, v, hT, hD, hv⟩ := hk.at5
   refine ⟨T ++ [⟨18, [], (n.toNat : Int), 0, 0⟩], ?_, .inr (.inl ⟨rfl, fun f => [(0, ndKids 14 (n.toNat : Int) ((v f).map (·.2)))], ?_, ?_⟩)⟩
   ·rw [hf]
    show Toks ((brF (decide (levN k < 5)) (formN k) ++ []) ++ 94 :: decN n.toNat) _
    rw [List.append_nil]
    exact .app stop94 hT (toks_boost hnat)
   ·have e : nestN (.mk 14 [] [] n bd0 bd0 [] [k]) = bump k 5 + 1 := by rw [nestN, nestNs_cons, nestNs, Nat.max_zero]; rfl
    rw [e]
    exact .sfx (b := ⟨18, [], (n.toNat : Int), 0, 0⟩) hD (.inl rfl)
   ·show [((0 : Int), ndKids 14 (n.toNat : Int) ((v []).map (·.2)))] = _
    rw [hv, hnn2]; rfl
  ·obtain ⟨T, v, hT, hD, hv⟩ := hk.at5
   refine ⟨T ++ [⟨19, [], (n.toNat : Int), 0, 0⟩], ?_, .inr (.inl ⟨rfl, fun f => [(0, ndKids 15 (n.toNat : Int) ((v f).map (·.2)))], ?_, ?_⟩)⟩
   ·rw [hf]
    show Toks ((brF (decide (levN k < 5)) (formN k) ++ []) ++ 94 :: 61 :: decN n.toNat) _
    rw [List.append_nil]
    exact .app stop94 hT (toks_const hnat)
   ·have e : nestN (.mk 15 [] [] n bd0 bd0 [] [k]) = bump k 5 + 1 := by rw [nestN, nestNs_cons, nestNs, Nat.max_zero]; rfl
    rw [e]
    exact .sfx (b := ⟨19, [], (n.toNat : Int), 0, 0⟩) hD (.inr rfl)
   ·show [((0 : Int), ndKids 15 (n.toNat : Int) ((v []).map (·.2)))] = _
    rw [hv, hnn2]; rfl
mutual
theorem form_toks : ∀ t : Nd, goodN t = true → CanN t → FT t
 | .mk kind field text n lo hi occ ks, hg, hc => by
  rw [goodN, Bool.and_eq_true] at hg
  exact form_step hg.1 hc (forms_toks ks hg.2 (can_kids hc).1)
theorem forms_toks : ∀ l : List Nd, goodNs l = true → (∀ k ∈ l, CanN k) → ∀ k ∈ l, FT k
 | [], _, _ => fun k hk => by cases hk
 | k :: ks, hg, hc => by
  rw [goodNs, Bool.and_eq_true] at hg
  have h1 := form_toks k hg.1 (hc k List.mem_cons_self)
  have h2 := forms_toks ks hg.2 (fun x hx => hc x (List.mem_cons_of_mem _ hx))
  intro x hx
  rcases List.mem_cons.1 hx with rfl | hx
  ·exact h1
  ·exact h2 x hx
end
theorem form_der {t : Nd} (hg : goodN t = true) (hc : CanN t) : Der (formN t) (nestN t) t := by
 obtain ⟨T, hT, hL⟩ := form_toks t hg hc
 obtain ⟨v, hD, hv⟩ := hL.list
 exact ⟨T, v, hT, hD, hv.symm⟩
theorem bd0_nil : Bd.nil bd0 = true := rfl
theorem bump_le (t : Nd) (m : Nat) : bump t m ≤ nestN t + 1 := by unfold bump; split <;> omega
def wildR : List UInt8 → Nat → Nat → UInt8 → Option (Nat × Nat × UInt8)
 | [], s, g, z => some (s, g, z)
 | c :: r, s, g, z =>
  if c = 42 then wildR r (s + 1) g 42
  else if c = 63 then wildR r s (g + 1) 63
  else if c = 92 then match r with
   | [] => none
   | d :: r2 => if d = 42 ∨ d = 63 ∨ d = 92 then wildR r2 s g 0 else none
  else wildR r s g c
def wildRB (l : List UInt8) : Bool := match wildR l 0 0 0 with
 | none => false
 | some (s, g, z) => decide (0 < g) || decide (1 < s) || (decide (s = 1) && decide (z ≠ 42))
def WEq (i : Nat) (a : Nat × Int) (b : Nat × Nat × UInt8) : Prop := a.1 = b.1 + 2 * b.2.1 ∧ (b.1 = 0 ∨ (b.2.2 = 42 ↔ a.2 = (i : Int) - 1)) ∧ a.2 < (i : Int)
theorem wild_two : ∀ (N : Nat) (l : List UInt8) (i m : Nat) (last : Int) (s g : Nat) (z : UInt8), l.length ≤ N → WEq i (m, last) (s, g, z) →
  (wildP l i m last = none ∧ wildR l s g z = none) ∨ ∃ a b, wildP l i m last = some a ∧ wildR l s g z = some b ∧ WEq (i + l.length) a b
 | N, [], i, m, last, s, g, z, _, h => .inr ⟨_, _, rfl, rfl, h⟩
 | 0, c :: r, i, m, last, s, g, z, hl, h => by simp at hl
 | N + 1, c :: r, i, m, last, s, g, z, hl, h => by
  have hl2 : r.length ≤ N := by simpa using hl
  obtain ⟨h1, h2, h3⟩ := h
  simp only [] at h1 h2 h3
  by_cases c1 : c = 42
  ·have h4 := wild_two N r (i + 1) (m + 1) i (s + 1) g 42 hl2 ⟨by simp only []; omega, .inr ⟨fun _ => by simp only []; omega, fun _ => rfl⟩, by simp only []; omega⟩
   rw [wildP.eq_def, wildR.eq_def]
   simp only [if_pos c1]
   rcases h4 with ⟨e1, e2⟩ | ⟨a, b, e1, e2, e3⟩
   ·exact .inl ⟨e1, e2⟩
   ·exact .inr ⟨a, b, e1, e2, by rw [List.length_cons, show i + (r.length + 1) = i + 1 + r.length from by omega]; exact e3⟩
  ·by_cases c2 : c = 63
   ·have h4 := wild_two N r (i + 1) (m + 2) last s (g + 1) 63 hl2 ⟨by simp only []; omega, .inr ⟨fun e => absurd (show (63 : UInt8) = 42 from e) (by decide), fun e => by simp only [] at e; omega⟩, by simp only []; omega⟩
    rw [wildP.eq_def, wildR.eq_def]
    simp only [if_neg c1, if_pos c2]
    rcases h4 with ⟨e1, e2⟩ | ⟨a, b, e1, e2, e3⟩
    ·exact .inl ⟨e1, e2⟩
    ·exact .inr ⟨a, b, e1, e2, by rw [List.length_cons, show i + (r.length + 1) = i + 1 + r.length from by omega]; exact e3⟩
   ·by_cases c3 : c = 92
    ·cases r with
     | nil =>
      rw [wildP.eq_def, wildR.eq_def]
      left
      simp only [if_neg c1, if_neg c2, if_pos c3, and_self]
     | cons d r2 =>
      rw [wildP.eq_def, wildR.eq_def]
      simp only [if_neg c1, if_neg c2, if_pos c3]
      by_cases c4 : d = 42 ∨ d = 63 ∨ d = 92
      ·have h4 := wild_two N r2 (i + 2) m last s g 0 (by simp at hl2; omega) ⟨h1, .inr ⟨fun e => absurd (show (0 : UInt8) = 42 from e) (by decide), fun e => by simp only [] at e; omega⟩, by simp only []; omega⟩
       rw [if_pos c4, if_pos c4]
       rcases h4 with ⟨e1, e2⟩ | ⟨a, b, e1, e2, e3⟩
       ·exact .inl ⟨e1, e2⟩
       ·exact .inr ⟨a, b, e1, e2, by rw [List.length_cons, List.length_cons, show i + (r2.length + 1 + 1) = i + 2 + r2.length from by omega]; exact e3⟩
      ·rw [if_neg c4, if_neg c4]
       exact .inl ⟨rfl, rfl⟩
    ·have h4 := wild_two N r (i + 1) m last s g c hl2 ⟨h1, .inr ⟨fun e => absurd e c1, fun e => by simp only [] at e; omega⟩, by simp only []; omega⟩
     rw [wildP.eq_def, wildR.eq_def]
     simp only [if_neg c1, if_neg c2, if_neg c3]
     rcases h4 with ⟨e1, e2⟩ | ⟨a, b, e1, e2, e3⟩
     ·exact .inl ⟨e1, e2⟩
     ·exact .inr ⟨a, b, e1, e2, by rw [List.length_cons, show i + (r.length + 1) = i + 1 + r.length from by omega]; exact e3⟩
theorem wild_same (l : List UInt8) : wildRB l = wildB l := by
 unfold wildRB wildB
 rcases wild_two l.length l 0 0 (-1) 0 0 0 (Nat.le_refl _) (show WEq 0 (0, -1) (0, 0, 0) from ⟨rfl, .inl rfl, by decide⟩) with ⟨e1, e2⟩ | ⟨⟨m, last⟩, ⟨s, g, z⟩, e1, e2, h1, h2, h3⟩
 ·rw [e1, e2]
 ·rw [e1, e2]
  simp only [] at h1 h2 h3 ⊢
  rw [Nat.zero_add] at h2
  rw [Bool.eq_iff_iff]
  simp only [Bool.or_eq_true, Bool.and_eq_true, decide_eq_true_eq]
  by_cases hz : z = 42
  ·simp only [hz, ne_eq, not_true_eq_false, and_false, or_false, true_iff] at h2 ⊢
   omega
  ·simp only [hz, ne_eq, not_false_eq_true, and_true, false_iff] at h2 ⊢
   omega
end Go.Proofs.YthcldpminmhgkaaDoor
end
section
namespace Go.Proofs.YthcldpminmhgkaaDoor
open Go.RowKit
theorem bd_eqIn (a b : Bool) (t : List UInt8) (W : World) : (Op.equalIn 10000 23 (.agg #[.bool a, .bool b, .string (str t)]) (.agg #[.bool false, .bool false, .string ⟨#[]⟩])).run Tryd.prog W = .ok (Bd.nil ⟨a, b, t⟩) W := by
 rw [run_equalIn_agg W 9999 23 _ _ (show Tryd.prog.underlying 23 = some (.struct (Tryd.prog.fieldsOf 23)) from by kernel_rfl) (by kernel_rfl)]
 simp only [Program.fieldsOf, Tryd.underlying23]
 simp [Op.eqFields, go_sem, Tryd.underlying4, Tryd.underlying9]
 have ht : ((str t).toList = (⟨#[]⟩ : ByteArray).toList) ↔ t = [] := by
  rw [ByteArray.toList_eq, ByteArray.toList_eq]; simp [str]
 unfold Bd.nil
 cases a <;> cases b <;> cases t <;> simp_all [str, ByteArray.toList_eq]
theorem bd_eqz (a b : Bool) (t : List UInt8) (W : World) : (binOp .eql 23 (.agg #[.bool a, .bool b, .string (str t)]) (.agg #[.bool false, .bool false, .string ⟨#[]⟩])).run Tryd.prog W = .ok (.bool (Bd.nil ⟨a, b, t⟩)) W := by
 have h := bd_eqIn a b t W
 rw [run_eql_struct, h]; rfl
theorem bd_nez (a b : Bool) (t : List UInt8) (W : World) : (binOp .neq 23 (.agg #[.bool a, .bool b, .string (str t)]) (.agg #[.bool false, .bool false, .string ⟨#[]⟩])).run Tryd.prog W = .ok (.bool (!Bd.nil ⟨a, b, t⟩)) W := by
 have h := bd_eqIn a b t W
 rw [run_neq_struct, h]; rfl
theorem bd_grd (a b : Bool) (t : ByteArray) (op : BinOp) (x y : Operand) (u : Array Value) (W : World) : (eqGuard op 23 x y (.agg #[.bool a, .bool b, .string t]) (.agg u)).run Tryd.prog W = .ok () W :=
 run_eqGuard_agg W op 23 x y _ _ (by kernel_rfl)
theorem str_toList (t : List UInt8) : (str t).toList = t := by rw [ByteArray.toList_eq]; rfl
def BoolRet (b : Bool) (w : World) (e : Ending) (w' : World) : Prop := e = .returned (.bool b) ∧ Below w.heap.size w w'
theorem ret_bool {a b : Bool} (h : a = b) : Ending.returned (.bool a) = .returned (.bool b) := by rw [h]
theorem bound_any (b : Bd) (w : World) : Calls Tryd.prog 52 #[.agg #[.bool b.open_, .bool b.in_, .string (str b.text)]] w fun e w' => e = .returned (.bool b.ok) ∧ w.alloc (.cells #[.bool b.open_, .bool b.in_, .string (str b.text)] 23) = w' := by
 obtain ⟨o, i, t⟩ := b
 simp only []
 cases o <;> cases i
 all_goals
  go_enter Tryd.func52, Tryd.ntmps52
  go_wp2
  all_goals
   go_ret
   exact ⟨ret_bool (by rw [Bool.eq_iff_iff]; simp_all [Bd.ok, str_toList]), rfl⟩
theorem rend_any (b : Bd) (w : World) : Calls Tryd.prog 74 #[.agg #[.bool b.open_, .bool b.in_, .string (str b.text)]] w fun e w' => e = .returned (.bool b.ok) ∧ w.alloc (.cells #[.bool b.open_, .bool b.in_, .string (str b.text)] 23) = w' := by
 obtain ⟨o, i, t⟩ := b
 simp only []
 cases o <;> cases i
 all_goals
  go_enter Tryd.func74, Tryd.ntmps74
  go_wp2
  all_goals
   go_ret
   exact ⟨ret_bool (by rw [Bool.eq_iff_iff]; simp_all [Bd.ok, str_toList]), rfl⟩
theorem rnum_any (n : Int) (w : World) : Calls Tryd.prog 72 #[.int .i64 n] w fun e w' => e = .returned (.bool (numB n)) ∧ w = w' := by
 go_enter Tryd.func72, Tryd.ntmps72
 go_wp2
 all_goals
  go_ret
  exact ⟨ret_bool (by unfold numB maxNum; first | (rw [decide_eq_true ‹0 ≤ n›, Bool.true_and]; done) | (rw [decide_eq_true ‹0 ≤ n›, Bool.true_and]; rfl) | (rw [decide_eq_false (by omega : ¬ 0 ≤ n)]; rfl)), rfl⟩
def bareB (field text : List UInt8) (n : Int) (lo hi : Bd) (on kn : Nat) : Bool := field.isEmpty && text.isEmpty && decide (n = 0) && lo.nil && hi.nil && decide (on = 0) && decide (kn = 0)
theorem bare_any (kind n : Int) (field text : List UInt8) (lo hi : Bd) (oa ka : Option Addr) (on oc kn kc : Nat) (w : World) :
  Calls Tryd.prog 71 #[.agg #[.int .i64 kind, .string (str field), .string (str text), .int .i64 n, .bool lo.open_, .bool lo.in_, .string (str lo.text), .bool hi.open_, .bool hi.in_, .string (str hi.text), .slice oa on oc, .slice ka kn kc]] w fun e w' => e = .returned (.bool (bareB field text n lo hi on kn)) ∧ ((w.alloc (.cells #[.int .i64 kind, .string (str field), .string (str text), .int .i64 n, .bool lo.open_, .bool lo.in_, .string (str lo.text), .bool hi.open_, .bool hi.in_, .string (str hi.text), .slice oa on oc, .slice ka kn kc] 27)).alloc (.cells #[.bool false, .bool false, .string ⟨#[]⟩] 23)) = w' := by
 obtain ⟨l1, l2, l3⟩ := lo
 obtain ⟨r1, r2, r3⟩ := hi
 have q1 := fun W => bd_eqz l1 l2 l3 W
 have q2 := fun W => bd_eqz r1 r2 r3 W
 have q3 := fun op x y u W => bd_grd l1 l2 (str l3) op x y u W
 have q4 := fun op x y u W => bd_grd r1 r2 (str r3) op x y u W
 generalize hlo : Bd.nil ⟨l1, l2, l3⟩ = lb at *
 generalize hhi : Bd.nil ⟨r1, r2, r3⟩ = rb at *
 have HLO := LH hlo; have HHI := LH hhi
 clear hlo hhi
 simp only []
 go_enter Tryd.func71, Tryd.ntmps71
 go_wp2
 all_goals
  go_ret
  refine ⟨ret_bool ?_, by first | rfl | simp_all⟩
  unfold bareB
  rw [HLO.out, HHI.out, Bool.eq_iff_iff]
  clear HLO HHI q1 q2 q3 q4
  simp_all [str_toList]
end Go.Proofs.YthcldpminmhgkaaDoor
end
