/- Merged for a claim by shake.py: Jk Jx -/
import Derived.Test.YthcldpminmhgkaaDoorKx23
set_option maxRecDepth 100000
set_option linter.unusedSimpArgs false
set_option linter.unusedVariables false
section
namespace Go.Proofs.YthcldpminmhgkaaDoor
def LvD (t : Nd) (T : List Lt) : Prop :=
 (levN t = 6 ∧ ∃ v, D .atom T (nestN t) v ∧ v [] = [(0, t)]) ∨ (levN t = 5 ∧ ∃ v, D .piece T (nestN t) v ∧ v [] = [(0, t)]) ∨ (levN t = 4 ∧ ∃ v, D .unary T (nestN t) v ∧ v [] = [(0, t)]) ∨
 (levN t = 3 ∧ ∃ v, D .maxes T (nestN t) v ∧ wrapN 12 (v []) = [(0, t)]) ∨ (levN t = 2 ∧ ∃ v, D .ands T (nestN t) v ∧ wrapN 10 (v []) = [(0, t)]) ∨
 (levN t = 1 ∧ ∃ v, D .ors T (nestN t) v ∧ wrapN 11 (v []) = [(0, t)]) ∨ (levN t = 0 ∧ ∃ v, D .list T (nestN t) v ∧ treeN (v []) = t)
def FT (t : Nd) : Prop := ∃ T, Toks (formN t) T ∧ LvD t T
theorem LvD.piece {t : Nd} {T : List Lt} (h : LvD t T) (hl : 5 ≤ levN t) : ∃ v, D .piece T (nestN t) v ∧ v [] = [(0, t)] := by
 rcases h with ⟨e, v, h, hv⟩ | ⟨e, v, h, hv⟩ | ⟨e, h⟩ | ⟨e, h⟩ | ⟨e, h⟩ | ⟨e, h⟩ | ⟨e, h⟩
 ·exact ⟨_, .atomP h, hv⟩
 ·exact ⟨_, h, hv⟩
 all_goals omega
theorem LvD.unary {t : Nd} {T : List Lt} (h : LvD t T) (hl : 4 ≤ levN t) : ∃ v, D .unary T (nestN t) v ∧ v [] = [(0, t)] := by
 by_cases h5 : 5 ≤ levN t
 ·obtain ⟨v, hd, hv⟩ := h.piece h5
  exact ⟨v, .pieceU hd, hv⟩
 ·rcases h with ⟨e, h⟩ | ⟨e, h⟩ | ⟨e, v, h, hv⟩ | ⟨e, h⟩ | ⟨e, h⟩ | ⟨e, h⟩ | ⟨e, h⟩
  ·omega
  ·omega
  ·exact ⟨v, h, hv⟩
  all_goals omega
theorem LvD.maxes {t : Nd} {T : List Lt} (h : LvD t T) (hl : 3 ≤ levN t) : ∃ v, D .maxes T (nestN t) v ∧ wrapN 12 (v []) = [(0, t)] := by
 by_cases h5 : 4 ≤ levN t
 ·obtain ⟨v, hd, hv⟩ := h.unary h5
  exact ⟨v, .maxU hd, by rw [hv]; rfl⟩
 ·rcases h with ⟨e, h⟩ | ⟨e, h⟩ | ⟨e, h⟩ | ⟨e, v, h, hv⟩ | ⟨e, h⟩ | ⟨e, h⟩ | ⟨e, h⟩
  ·omega
  ·omega
  ·omega
  ·exact ⟨v, h, hv⟩
  all_goals omega
theorem LvD.ands {t : Nd} {T : List Lt} (h : LvD t T) (hl : 2 ≤ levN t) : ∃ v, D .ands T (nestN t) v ∧ wrapN 10 (v []) = [(0, t)] := by
 by_cases h5 : 3 ≤ levN t
 ·obtain ⟨v, hd, hv⟩ := h.maxes h5
  exact ⟨_, .andM hd, by rw [hv]; rfl⟩
 ·rcases h with ⟨e, h⟩ | ⟨e, h⟩ | ⟨e, h⟩ | ⟨e, h⟩ | ⟨e, v, h, hv⟩ | ⟨e, h⟩ | ⟨e, h⟩
  ·omega
  ·omega
  ·omega
  ·omega
  ·exact ⟨v, h, hv⟩
  all_goals omega
theorem LvD.ors {t : Nd} {T : List Lt} (h : LvD t T) (hl : 1 ≤ levN t) : ∃ v, D .ors T (nestN t) v ∧ wrapN 11 (v []) = [(0, t)] := by
 by_cases h5 : 2 ≤ levN t
 ·obtain ⟨v, hd, hv⟩ := h.ands h5
  exact ⟨_, .orA hd, by rw [hv]; rfl⟩
 ·rcases h with ⟨e, h⟩ | ⟨e, h⟩ | ⟨e, h⟩ | ⟨e, h⟩ | ⟨e, h⟩ | ⟨e, v, h, hv⟩ | ⟨e, h⟩
  ·omega
  ·omega
  ·omega
  ·omega
  ·omega
  ·exact ⟨v, h, hv⟩
  ·omega
theorem LvD.list {t : Nd} {T : List Lt} (h : LvD t T) : ∃ v, D .list T (nestN t) v ∧ treeN (v []) = t := by
 by_cases h5 : 1 ≤ levN t
 ·obtain ⟨v, hd, hv⟩ := h.ors h5
  exact ⟨_, .one (.clauseO hd), by rw [hv]; rfl⟩
 ·rcases h with ⟨e, h⟩ | ⟨e, h⟩ | ⟨e, h⟩ | ⟨e, h⟩ | ⟨e, h⟩ | ⟨e, h⟩ | ⟨e, v, h, hv⟩
  ·omega
  ·omega
  ·omega
  ·omega
  ·omega
  ·omega
  ·exact ⟨v, h, hv⟩
theorem FT.paren {t : Nd} (h : FT t) : ∃ T v, Toks (40 :: (formN t ++ [41])) T ∧ D .piece T (nestN t + 1) v ∧ v [] = [(0, t)] := by
 obtain ⟨T, hT, hL⟩ := h
 obtain ⟨v, hD, hv⟩ := hL.list
 refine ⟨_, _, toks_paren hT .nil, hD.paren, ?_⟩
 show [((0 : Int), treeN (v []))] = _
 rw [hv]
def bump (t : Nd) (m : Nat) : Nat := nestN t + if levN t < m then 1 else 0
theorem br_yes {t : Nd} {m : Nat} (h : levN t < m) : brF (decide (levN t < m)) (formN t) = 40 :: (formN t ++ [41]) ∧ bump t m = nestN t + 1 := by
 unfold brF bump
 rw [if_pos (decide_eq_true h), if_pos h]; exact ⟨rfl, rfl⟩
theorem br_no {t : Nd} {m : Nat} (h : ¬ levN t < m) : brF (decide (levN t < m)) (formN t) = formN t ∧ bump t m = nestN t := by
 unfold brF bump
 rw [if_neg (by rw [decide_eq_false h]; decide), if_neg h]; exact ⟨rfl, rfl⟩
theorem FT.at5 {t : Nd} (h : FT t) : ∃ T v, Toks (brF (decide (levN t < 5)) (formN t)) T ∧ D .piece T (bump t 5) v ∧ v [] = [(0, t)] := by
 by_cases hl : levN t < 5
 ·rw [(br_yes hl).1, (br_yes hl).2]; exact h.paren
 ·rw [(br_no hl).1, (br_no hl).2]
  obtain ⟨T, hT, hL⟩ := h
  obtain ⟨v, hD, hv⟩ := hL.piece (by omega)
  exact ⟨T, v, hT, hD, hv⟩
theorem FT.at4 {t : Nd} (h : FT t) : ∃ T v, Toks (brF (decide (levN t < 4)) (formN t)) T ∧ D .unary T (bump t 4) v ∧ v [] = [(0, t)] := by
 by_cases hl : levN t < 4
 ·rw [(br_yes hl).1, (br_yes hl).2]
  obtain ⟨T, v, hT, hD, hv⟩ := h.paren
  exact ⟨T, v, hT, .pieceU hD, hv⟩
 ·rw [(br_no hl).1, (br_no hl).2]
  obtain ⟨T, hT, hL⟩ := h
  obtain ⟨v, hD, hv⟩ := hL.unary (by omega)
  exact ⟨T, v, hT, hD, hv⟩
theorem FT.at3 {t : Nd} (h : FT t) : ∃ T v, Toks (brF (decide (levN t < 3)) (formN t)) T ∧ D .maxes T (bump t 3) v ∧ wrapN 12 (v []) = [(0, t)] := by
 by_cases hl : levN t < 3
 ·rw [(br_yes hl).1, (br_yes hl).2]
  obtain ⟨T, v, hT, hD, hv⟩ := h.paren
  exact ⟨T, v, hT, .maxU (.pieceU hD), by rw [hv]; rfl⟩
 ·rw [(br_no hl).1, (br_no hl).2]
  obtain ⟨T, hT, hL⟩ := h
  obtain ⟨v, hD, hv⟩ := hL.maxes (by omega)
  exact ⟨T, v, hT, hD, hv⟩
theorem FT.at2 {t : Nd} (h : FT t) : ∃ T v, Toks (brF (decide (levN t < 2)) (formN t)) T ∧ D .ands T (bump t 2) v ∧ wrapN 10 (v []) = [(0, t)] := by
 by_cases hl : levN t < 2
 ·rw [(br_yes hl).1, (br_yes hl).2]
  obtain ⟨T, v, hT, hD, hv⟩ := h.paren
  exact ⟨T, _, hT, .andM (.maxU (.pieceU hD)), by rw [hv]; rfl⟩
 ·rw [(br_no hl).1, (br_no hl).2]
  obtain ⟨T, hT, hL⟩ := h
  obtain ⟨v, hD, hv⟩ := hL.ands (by omega)
  exact ⟨T, v, hT, hD, hv⟩
theorem FT.at1 {t : Nd} (h : FT t) : ∃ T v, Toks (brF (decide (levN t < 1)) (formN t)) T ∧ D .ors T (bump t 1) v ∧ wrapN 11 (v []) = [(0, t)] := by
 by_cases hl : levN t < 1
 ·rw [(br_yes hl).1, (br_yes hl).2]
  obtain ⟨T, v, hT, hD, hv⟩ := h.paren
  exact ⟨T, _, hT, .orA (.andM (.maxU (.pieceU hD))), by rw [hv]; rfl⟩
 ·rw [(br_no hl).1, (br_no hl).2]
  obtain ⟨T, hT, hL⟩ := h
  obtain ⟨v, hD, hv⟩ := hL.ors (by omega)
  exact ⟨T, v, hT, hD, hv⟩
theorem nestNs_cons (kind : Int) (occ : List Int) (k : Nd) (ks : List Nd) : nestNs kind occ (k :: ks) = max (bump k (barK kind (occ.headD 0))) (nestNs kind occ.tail ks) := by rw [nestNs]; rfl
theorem chain_rest {p : Pt} {kind : Int} {M : List UInt8} {mk : Lt} (hk9 : kind ≠ 9) (hsep : sepF kind = 32 :: (M ++ [32])) (hM : Toks M [mk]) :
  ∀ (ks : List Nd) (P : List UInt8) (A : List Lt) (n : Nat) (v : Vl),
   (∀ k ∈ ks, ∃ T, Toks (brF (decide (levN k < barK kind 0)) (formN k)) T ∧ ∀ (A : List Lt) (n : Nat) (v : Vl), D p A n v → ∃ v', D p (A ++ mk :: T) (max n (bump k (barK kind 0))) v' ∧ v' [] = v [] ++ [(0, k)]) →
   Toks P A → D p A n v → ∃ B v', Toks (P ++ formNs kind false [] ks) B ∧ D p B (max n (nestNs kind [] ks)) v' ∧ v' [] = v [] ++ ks.map fun k => ((0 : Int), k)
 | [], P, A, n, v, hks, hP, hD => by
  rw [formNs, nestNs, List.append_nil, Nat.max_zero]
  exact ⟨A, v, hP, hD, by simp⟩
 | k :: ks, P, A, n, v, hks, hP, hD => by
  obtain ⟨T, hT, hstep⟩ := hks k List.mem_cons_self
  obtain ⟨v2, hD2, hv2⟩ := hstep A n v hD
  have hP2 : Toks (P ++ 32 :: (M ++ 32 :: brF (decide (levN k < barK kind 0)) (formN k))) (A ++ ([mk] ++ T)) := .app stop32 hP (.blank blank32 (.app stop32 hM (.blank blank32 hT)))
  obtain ⟨B, v3, hB, hD3, hv3⟩ := chain_rest hk9 hsep hM ks _ _ _ _ (fun x hx => hks x (List.mem_cons_of_mem _ hx)) hP2 hD2
  refine ⟨B, v3, ?_, ?_, ?_⟩
  ·rw [formNs, if_neg (by decide), if_neg hk9, hsep]
   have e : P ++ (32 :: (M ++ [32]) ++ [] ++ brF (decide (levN k < barK kind (([] : List Int).headD 0))) (formN k) ++ formNs kind false ([] : List Int).tail ks) = P ++ 32 :: (M ++ 32 :: brF (decide (levN k < barK kind 0)) (formN k)) ++ formNs kind false [] ks := by
    simp
   rw [e]; exact hB
  ·rw [nestNs_cons, ← Nat.max_assoc]; exact hD3
  ·rw [hv3, hv2, List.append_assoc]; rfl
theorem wrap_many {k : Int} {l : List (Int × Nd)} (h : l.length ≠ 1) : wrapN k l = [(0, ndKids k 0 (l.map (·.2)))] := by
 rcases l with _ | ⟨a, _ | ⟨b, r⟩⟩
 ·rfl
 ·exact absurd rfl h
 ·rfl
theorem map_snd (ks : List Nd) : (ks.map fun k => ((0 : Int), k)).map (·.2) = ks := by rw [List.map_map]; exact List.map_id ks
theorem chain_all {p : Pt} {kind : Int} {M : List UInt8} {mk : Lt} {ks : List Nd} (hk9 : kind ≠ 9) (hsep : sepF kind = 32 :: (M ++ [32])) (hM : Toks M [mk]) (h2 : ks ≠ [])
  (h0 : ∀ k ∈ ks, ∃ T v, Toks (brF (decide (levN k < barK kind 0)) (formN k)) T ∧ D p T (bump k (barK kind 0)) v ∧ v [] = [(0, k)])
  (hks : ∀ k ∈ ks, ∃ T, Toks (brF (decide (levN k < barK kind 0)) (formN k)) T ∧ ∀ (A : List Lt) (n : Nat) (v : Vl), D p A n v → ∃ v', D p (A ++ mk :: T) (max n (bump k (barK kind 0))) v' ∧ v' [] = v [] ++ [(0, k)]) :
  ∃ T v, Toks (formNs kind true [] ks) T ∧ D p T (nestNs kind [] ks) v ∧ v [] = ks.map fun k => ((0 : Int), k) := by
 cases ks with
 | nil => exact absurd rfl h2
 | cons k ks =>
  obtain ⟨T, v, hT, hD, hv⟩ := h0 k List.mem_cons_self
  obtain ⟨B, v3, hB, hD3, hv3⟩ := chain_rest hk9 hsep hM ks _ _ _ _ (fun x hx => hks x (List.mem_cons_of_mem _ hx)) hT hD
  refine ⟨B, v3, ?_, ?_, ?_⟩
  ·rw [formNs, if_pos rfl, if_neg hk9]; exact hB
  ·rw [nestNs_cons]; exact hD3
  ·rw [hv3, hv]; rfl
theorem barK12 (o : Int) : barK 12 o = 4 := rfl
theorem barK10 (o : Int) : barK 10 o = 3 := rfl
theorem barK11 (o : Int) : barK 11 o = 2 := rfl
theorem maxes_toks {ks : List Nd} (h2 : ks ≠ []) (h : ∀ k ∈ ks, FT k) : ∃ T v, Toks (formNs 12 true [] ks) T ∧ D .maxes T (nestNs 12 [] ks) v ∧ v [] = ks.map fun k => ((0 : Int), k) := by
 refine chain_all (p := .maxes) (M := [124]) (mk := tkMark 17) (by decide) rfl toks_bar h2 (fun k hk => ?_) (fun k hk => ?_)
 ·obtain ⟨T, v, hT, hD, hv⟩ := (h k hk).at4
  exact ⟨T, v, hT, .maxU hD, hv⟩
 ·obtain ⟨T, v, hT, hD, hv⟩ := (h k hk).at4
  refine ⟨T, hT, fun A n u hA => ⟨_, .bar hA rfl hD, ?_⟩⟩
  show _ ++ v [] = _
  rw [hv]
theorem ands_toks {ks : List Nd} (h2 : ks ≠ []) (h : ∀ k ∈ ks, FT k) : ∃ T v, Toks (formNs 10 true [] ks) T ∧ D .ands T (nestNs 10 [] ks) v ∧ v [] = ks.map fun k => ((0 : Int), k) := by
 refine chain_all (p := .ands) (M := [65, 78, 68]) (mk := tkMark 4) (by decide) rfl toks_and h2 (fun k hk => ?_) (fun k hk => ?_)
 ·obtain ⟨T, v, hT, hD, hv⟩ := (h k hk).at3
  exact ⟨T, _, hT, .andM hD, hv⟩
 ·obtain ⟨T, v, hT, hD, hv⟩ := (h k hk).at3
  refine ⟨T, hT, fun A n u hA => ⟨_, .and hA rfl hD, ?_⟩⟩
  show _ ++ wrapN 12 (v []) = _
  rw [hv]
theorem ors_toks {ks : List Nd} (h2 : ks ≠ []) (h : ∀ k ∈ ks, FT k) : ∃ T v, Toks (formNs 11 true [] ks) T ∧ D .ors T (nestNs 11 [] ks) v ∧ v [] = ks.map fun k => ((0 : Int), k) := by
 refine chain_all (p := .ors) (M := [79, 82]) (mk := tkMark 5) (by decide) rfl toks_or h2 (fun k hk => ?_) (fun k hk => ?_)
 ·obtain ⟨T, v, hT, hD, hv⟩ := (h k hk).at2
  exact ⟨T, _, hT, .orA hD, hv⟩
 ·obtain ⟨T, v, hT, hD, hv⟩ := (h k hk).at2
  refine ⟨T, hT, fun A n u hA => ⟨_, .or hA rfl hD, ?_⟩⟩
  show _ ++ wrapN 10 (v []) = _
  rw [hv]
theorem clause_toks {k : Nd} {o : Int} (h : FT k) (ho : 0 ≤ o ∧ o ≤ 2) : ∃ T v, Toks (signF o ++ brF (decide (levN k < barK 9 o)) (formN k)) T ∧ D .clause T (bump k (barK 9 o)) v ∧ v [] = [(o, k)] := by
 by_cases h0 : o = 0
 ·subst h0
  obtain ⟨T, v, hT, hD, hv⟩ := h.at1
  exact ⟨T, _, hT, .clauseO hD, hv⟩
 ·have hb : barK 9 o = 4 := by unfold barK; rw [if_pos rfl, if_neg h0]
  rw [hb]
  obtain ⟨T, v, hT, hD, hv⟩ := h.at4
  by_cases h1 : o = 1
  ·subst h1
   refine ⟨_, _, .single (k := 15) (by decide) (by decide) hT, .sign (s := ⟨15, [], 0, 0, 0⟩) (.inl rfl) hD, ?_⟩
   show (v []).map _ = _
   rw [hv]; rfl
  ·obtain rfl : o = 2 := by omega
   refine ⟨_, _, .single (k := 16) (by decide) (by decide) hT, .sign (s := ⟨16, [], 0, 0, 0⟩) (.inr rfl) hD, ?_⟩
   show (v []).map _ = _
   rw [hv]; rfl
theorem list_rest : ∀ (ks : List Nd) (occ : List Int) (P : List UInt8) (A : List Lt) (n : Nat) (v : Vl), occ.length = ks.length → (∀ o ∈ occ, 0 ≤ o ∧ o ≤ 2) → (∀ k ∈ ks, FT k) → Toks P A → D .list A n v →
  ∃ B v', Toks (P ++ formNs 9 false occ ks) B ∧ D .list B (max n (nestNs 9 occ ks)) v' ∧ v' [] = v [] ++ occ.zip ks
 | [], occ, P, A, n, v, hl, ho, hks, hP, hD => by
  obtain rfl : occ = [] := List.eq_nil_of_length_eq_zero hl
  rw [formNs, nestNs, List.append_nil, Nat.max_zero]
  exact ⟨A, v, hP, hD, by simp⟩
 | k :: ks, [], P, A, n, v, hl, ho, hks, hP, hD => by simp at hl
 | k :: ks, o :: occ, P, A, n, v, hl, ho, hks, hP, hD => by
  obtain ⟨T, u, hT, hC, hu⟩ := clause_toks (hks k List.mem_cons_self) (ho o List.mem_cons_self)
  have hP2 : Toks (P ++ 32 :: (signF o ++ brF (decide (levN k < barK 9 o)) (formN k))) (A ++ T) := .app stop32 hP (.blank blank32 hT)
  have hD2 := D.more hD hC
  obtain ⟨B, v3, hB, hD3, hv3⟩ := list_rest ks occ _ _ _ _ (by simpa using hl) (fun x hx => ho x (List.mem_cons_of_mem _ hx)) (fun x hx => hks x (List.mem_cons_of_mem _ hx)) hP2 hD2
  refine ⟨B, v3, ?_, ?_, ?_⟩
  ·rw [formNs, if_neg (by decide), if_pos rfl]
   have e : P ++ (sepF 9 ++ signF ((o :: occ).headD 0) ++ brF (decide (levN k < barK 9 ((o :: occ).headD 0))) (formN k) ++ formNs 9 false (o :: occ).tail ks) = P ++ 32 :: (signF o ++ brF (decide (levN k < barK 9 o)) (formN k)) ++ formNs 9 false occ ks := by
    simp [sepF]
   rw [e]; exact hB
  ·rw [nestNs_cons, ← Nat.max_assoc]; exact hD3
  ·rw [hv3]
   show (v [] ++ u []) ++ _ = _
   rw [hu, List.append_assoc]; rfl
theorem list_toks {ks : List Nd} {occ : List Int} (h2 : ks ≠ []) (hl : occ.length = ks.length) (ho : ∀ o ∈ occ, 0 ≤ o ∧ o ≤ 2) (hks : ∀ k ∈ ks, FT k) :
  ∃ T v, Toks (formNs 9 true occ ks) T ∧ D .list T (nestNs 9 occ ks) v ∧ v [] = occ.zip ks := by
 cases ks with
 | nil => exact absurd rfl h2
 | cons k ks =>
  cases occ with
  | nil => simp at hl
  | cons o occ =>
   obtain ⟨T, u, hT, hC, hu⟩ := clause_toks (hks k List.mem_cons_self) (ho o List.mem_cons_self)
   obtain ⟨B, v3, hB, hD3, hv3⟩ := list_rest ks occ _ _ _ _ (by simpa using hl) (fun x hx => ho x (List.mem_cons_of_mem _ hx)) (fun x hx => hks x (List.mem_cons_of_mem _ hx)) hT (.one hC)
   refine ⟨B, v3, ?_, ?_, ?_⟩
   ·rw [formNs, if_pos rfl, if_pos rfl]; exact hB
   ·rw [nestNs_cons]; exact hD3
   ·rw [hv3, hu]; rfl
theorem zip_fst {α β : Type} : ∀ (a : List α) (b : List β), a.length = b.length → (a.zip b).map (·.1) = a
 | [], [], _ => rfl
 | x :: a, [], h => by simp at h
 | [], y :: b, h => by simp at h
 | x :: a, y :: b, h => by rw [List.zip_cons_cons, List.map_cons, zip_fst a b (by simpa using h)]
theorem zip_snd {α β : Type} : ∀ (a : List α) (b : List β), a.length = b.length → (a.zip b).map (·.2) = b
 | [], [], _ => rfl
 | x :: a, [], h => by simp at h
 | [], y :: b, h => by simp at h
 | x :: a, y :: b, h => by rw [List.zip_cons_cons, List.map_cons, zip_snd a b (by simpa using h)]
theorem form_step {kind n : Int} {field text : List UInt8} {lo hi : Bd} {occ : List Int} {ks : List Nd} (ho : ownN kind field text n lo hi occ ks.length = true) (hc : CanN (.mk kind field text n lo hi occ ks)) (ih : ∀ k ∈ ks, FT k) : FT (.mk kind field text n lo hi occ ks) := by
 have hcan := (can_kids hc).2
 rcases own_cases ho with ⟨hL, rfl, h0, h8, h9⟩ | ⟨h9, h15, rfl, rfl, rfl, rfl, hn0, hn1, hpos, hocc, hoc, hnn, h13⟩
 ·obtain rfl : ks = [] := List.eq_nil_of_length_eq_zero h0
  have hnest : nestN (.mk kind field text n lo hi [] []) = 0 := by
   rw [nestN, nestNs]
   unfold deepK
   rw [if_neg (by omega)]
  have hlev : levN (.mk kind field text n lo hi [] []) = 6 := by
   show levK kind n = 6
   unfold levK
   rw [if_neg (by omega), if_neg (by omega), if_neg (by omega), if_neg (by omega), if_neg (by omega), if_neg (by omega)]
  by_cases hk8 : kind = 8
  ·obtain rfl := h8 hk8
   subst hk8
   rcases hL with ⟨h, _⟩ | ⟨h, _⟩ | ⟨h, _⟩ | ⟨h, _⟩ | ⟨h, _⟩ | ⟨h, _⟩ | ⟨h, _⟩ | ⟨_, rfl, rfl, rfl, rfl⟩
   any_goals omega
   refine ⟨[⟨2, [42], 0, 0, 0⟩] ++ [⟨14, [], 0, 0, 0⟩, ⟨2, [42], 0, 0, 0⟩], ?_, .inl ⟨rfl, _, .all (s := ⟨2, [42], 0, 0, 0⟩) (c := ⟨14, [], 0, 0, 0⟩) (t := ⟨2, [42], 0, 0, 0⟩) rfl rfl rfl, rfl⟩⟩
   exact Toks.app stop58 toks_star (.single (k := 14) (by decide) (by decide) toks_star)
  ·obtain ⟨T, hT, hD⟩ := leaf_toks hL hk8
   have hf : formN (.mk kind field text n lo hi [] []) = headF field ++ leafF kind text n lo hi := by rw [formN, if_pos h9, if_neg hk8]
   by_cases hfd : field = []
   ·subst hfd
    refine ⟨T, by rw [hf]; exact hT, .inl ⟨hlev, one1 fun f => .mk kind f text n lo hi [] [], ?_, ?_⟩⟩
    ·rw [hnest]; exact .bodyA hD
    ·rfl
   ·refine ⟨⟨1, field, 0, 0, 0⟩ :: ⟨14, [], 0, 0, 0⟩ :: T, ?_, .inl ⟨hlev, fun _ => one1 (fun f => .mk kind f text n lo hi [] []) field, ?_, ?_⟩⟩
    ·rw [hf]
     unfold headF
     rw [if_neg hfd, List.append_assoc]
     exact toks_field hfd hT
    ·rw [hnest]
     exact .field (w := ⟨1, field, 0, 0, 0⟩) (c := ⟨14, [], 0, 0, 0⟩) rfl rfl hD
    ·rfl
 ·have hf : formN (.mk kind [] [] n bd0 bd0 occ ks) = aroundF kind n (formNs kind true occ ks) := by rw [formN, if_neg (by omega)]
  have hk0 : ks ≠ [] := fun e => by rw [e] at hpos; exact absurd hpos (Nat.lt_irrefl _)
  have hnat : n.toNat ≤ 999999999 := by omega
  have hnn2 : ((n.toNat : Nat) : Int) = n := by omega
  have hkk : kind = 9 ∨ kind = 10 ∨ kind = 11 ∨ kind = 12 ∨ kind = 13 ∨ kind = 14 ∨ kind = 15 := by omega
  rcases hkk with rfl | rfl | rfl | rfl | rfl | rfl | rfl
  ·obtain ⟨hol, ho2⟩ := hocc rfl
   obtain ⟨T, v, hT, hD, hv⟩ := list_toks hk0 hol ho2 ih
   by_cases hn : 0 < n
   ·refine ⟨tkOpen :: (T ++ tkClose :: [⟨21, [], (n.toNat : Int), 0, 0⟩]), ?_, .inl ⟨?_, fun f => [(0, if 0 < ((n.toNat : Nat) : Int) then ndList (n.toNat : Int) (v f) else treeN (v f))], .bodyA (.groupB ?_), ?_⟩⟩
    ·rw [hf]
     unfold aroundF
     rw [if_pos rfl, if_pos hn]
     exact toks_paren hT (toks_least hnat)
    ·show levK 9 n = 6
     unfold levK
     rw [if_pos rfl, if_pos hn]
    ·have e : nestN (.mk 9 [] [] n bd0 bd0 occ ks) = nestNs 9 occ ks + 1 := by
      rw [nestN]; unfold deepK; rw [if_pos (.inr (.inr (.inr ⟨rfl, hn⟩)))]
     rw [e]
     exact .least (o := tkOpen) (c := tkClose) (l := ⟨21, [], (n.toNat : Int), 0, 0⟩) rfl hD rfl rfl
    ·show [((0 : Int), if 0 < ((n.toNat : Nat) : Int) then ndList (n.toNat : Int) (v []) else treeN (v []))] = _
     rw [hnn2, if_pos hn, hv]
     unfold ndList
     rw [zip_fst _ _ hol, zip_snd _ _ hol]
   ·obtain rfl : n = 0 := by omega
    refine ⟨T, ?_, .inr (.inr (.inr (.inr (.inr (.inr ⟨rfl, v, ?_, ?_⟩)))))⟩
    ·rw [hf]; exact hT
    ·have e : nestN (.mk 9 [] [] 0 bd0 bd0 occ ks) = nestNs 9 occ ks := by rw [nestN]; rfl
     rw [e]; exact hD
    ·rw [hv]
     have e : treeN (occ.zip ks) = ndList 0 (occ.zip ks) := by
      rcases occ with _ | ⟨o, occ⟩
      ·cases ks with
       | nil => exact absurd rfl hk0
       | cons k ks => simp at hol
      ·rcases ks with _ | ⟨k, ks⟩
       ·exact absurd rfl hk0
       ·rcases ks with _ | ⟨k2, ks⟩
        ·rcases occ with _ | ⟨o2, occ⟩
         ·have ho0 : o ≠ 0 := fun e => hcan rfl (.inr (.inr (.inr ⟨rfl, rfl, by rw [e]; rfl⟩)))
          show treeN [(o, k)] = _
          unfold treeN
          split
          ·rename_i x e
           injection e with e _
           injection e with e _
           exact absurd e ho0
          ·rfl
         ·simp at hol
        ·rcases occ with _ | ⟨o2, occ⟩
         ·simp at hol
         ·show treeN ((o, k) :: (o2, k2) :: occ.zip ks) = _
          unfold treeN
          split
          ·rename_i x e; simp at e
          ·rfl
     rw [e]
     unfold ndList
     rw [zip_fst _ _ hol, zip_snd _ _ hol]
  ·obtain rfl := hoc (by decide)
   obtain rfl := hnn (.inl rfl)
   obtain ⟨T, v, hT, hD, hv⟩ := ands_toks hk0 ih
   refine ⟨T, by rw [hf]; exact hT, .inr (.inr (.inr (.inr (.inl ⟨rfl, v, ?_, ?_⟩))))⟩
   ·have e : nestN (.mk 10 [] [] 0 bd0 bd0 [] ks) = nestNs 10 [] ks := by rw [nestN]; rfl
    rw [e]; exact hD
   ·rw [hv, wrap_many (by rw [List.length_map]; exact fun e => hcan e (.inl rfl)), map_snd]; rfl
  ·obtain rfl := hoc (by decide)
   obtain rfl := hnn (.inr (.inl rfl))
   obtain ⟨T, v, hT, hD, hv⟩ := ors_toks hk0 ih
   refine ⟨T, by rw [hf]; exact hT, .inr (.inr (.inr (.inr (.inr (.inl ⟨rfl, v, ?_, ?_⟩)))))⟩
   ·have e : nestN (.mk 11 [] [] 0 bd0 bd0 [] ks) = nestNs 11 [] ks := by rw [nestN]; rfl
    rw [e]; exact hD
   ·rw [hv, wrap_many (by rw [List.length_map]; exact fun e => hcan e (.inr (.inl rfl))), map_snd]; rfl
  ·obtain rfl := hoc (by decide)
   obtain rfl := hnn (.inr (.inr (.inl rfl)))
   obtain ⟨T, v, hT, hD, hv⟩ := maxes_toks hk0 ih
   refine ⟨T, by rw [hf]; exact hT, .inr (.inr (.inr (.inl ⟨rfl, v, ?_, ?_⟩)))⟩
   ·have e : nestN (.mk 12 [] [] 0 bd0 bd0 [] ks) = nestNs 12 [] ks := by rw [nestN]; rfl
    rw [e]; exact hD
   ·rw [hv, wrap_many (by rw [List.length_map]; exact fun e => hcan e (.inr (.inr (.inl rfl)))), map_snd]; rfl
  all_goals
   obtain rfl := hoc (by decide)
   obtain ⟨k, rfl⟩ : ∃ k, ks = [k] := by
    have := h13 (by decide)
    rcases ks with _ | ⟨k, _ | ⟨k2, ks⟩⟩
    ·cases this
    ·exact ⟨k, rfl⟩
    ·simp at this
   have hk := ih k (List.mem_singleton.2 rfl)
  ·obtain rfl := hnn (.inr (.inr (.inr rfl)))
   obtain ⟨T, v, hT, hD, hv⟩ := hk.at4
   refine ⟨tkNot :: T, ?_, .inr (.inr (.inl ⟨rfl, fun f => [(0, ndKids 13 0 ((v f).map (·.2)))], ?_, ?_⟩))⟩
   ·rw [hf]
    show Toks ([78, 79, 84] ++ 32 :: (brF (decide (levN k < 4)) (formN k) ++ [])) ([tkNot] ++ T)
    rw [List.append_nil]
    exact .app stop32 toks_not (.blank blank32 hT)
   ·have e : nestN (.mk 13 [] [] 0 bd0 bd0 [] [k]) = bump k 4 + 1 := by rw [nestN, nestNs_cons, nestNs, Nat.max_zero]; rfl
    rw [e]
    exact .not (t := tkNot) rfl hD
   ·show [((0 : Int), ndKids 13 0 ((v []).map (·.2)))] = _
    rw [hv]; rfl
  ·obtain ⟨T, v, hT, hD, hv⟩ := hk.at5
   refine ⟨T ++ [⟨18, [], (n.toNat : Int), 0, 0⟩], ?_, .inr (.inl ⟨rfl, fun f => [(0, ndKids 14 (n.toNat : Int) ((v f).map (·.2)))], ?_, ?_⟩)⟩
   ·rw [hf]
    show Toks ((brF (decide (levN k < 5)) (formN k) ++ []) ++ 94 :: decN n.toNat) _
    rw [List.append_nil]
    exact .app stop94 hT (toks_boost hnat)
   ·have e : nestN (.mk 14 [] [] n bd0 bd0 [] [k]) = bump k 5 + 1 := by rw [nestN, nestNs_cons, nestNs, Nat.max_zero]; rfl
    rw [e]
    exact .sfx (b := ⟨18, [], (n.toNat : Int), 0, 0⟩) hD (.inl rfl)
   ·show [((0 : Int), ndKids 14 (n.toNat : Int) ((v []).map (·.2)))] = _
    rw [hv, hnn2]; rfl
  ·obtain ⟨T, v, hT, hD, hv⟩ := hk.at5
   refine ⟨T ++ [⟨19, [], (n.toNat : Int), 0, 0⟩], ?_, .inr (.inl ⟨rfl, fun f => [(0, ndKids 15 (n.toNat : Int) ((v f).map (·.2)))], ?_, ?_⟩)⟩
   ·rw [hf]
    show Toks ((brF (decide (levN k < 5)) (formN k) ++ []) ++ 94 :: 61 :: decN n.toNat) _
    rw [List.append_nil]
    exact .app stop94 hT (toks_const hnat)
   ·have e : nestN (.mk 15 [] [] n bd0 bd0 [] [k]) = bump k 5 + 1 := by rw [nestN, nestNs_cons, nestNs, Nat.max_zero]; rfl
    rw [e]
    exact .sfx (b := ⟨19, [], (n.toNat : Int), 0, 0⟩) hD (.inr rfl)
   ·show [((0 : Int), ndKids 15 (n.toNat : Int) ((v []).map (·.2)))] = _
    rw [hv, hnn2]; rfl
mutual
theorem form_toks : ∀ t : Nd, goodN t = true → CanN t → FT t
 | .mk kind field text n lo hi occ ks, hg, hc => by
  rw [goodN, Bool.and_eq_true] at hg
  exact form_step hg.1 hc (forms_toks ks hg.2 (can_kids hc).1)
theorem forms_toks : ∀ l : List Nd, goodNs l = true → (∀ k ∈ l, CanN k) → ∀ k ∈ l, FT k
 | [], _, _ => fun k hk => by cases hk
 | k :: ks, hg, hc => by
  rw [goodNs, Bool.and_eq_true] at hg
  have h1 := form_toks k hg.1 (hc k List.mem_cons_self)
  have h2 := forms_toks ks hg.2 (fun x hx => hc x (List.mem_cons_of_mem _ hx))
  intro x hx
  rcases List.mem_cons.1 hx with rfl | hx
  ·exact h1
  ·exact h2 x hx
end
theorem form_der {t : Nd} (hg : goodN t = true) (hc : CanN t) : Der (formN t) (nestN t) t := by
 obtain ⟨T, hT, hL⟩ := form_toks t hg hc
 obtain ⟨v, hD, hv⟩ := hL.list
 exact ⟨T, v, hT, hD, hv.symm⟩
theorem cls_cases (c : UInt8) : cls c = 0 ∨ cls c = 1 ∨ cls c = 2 ∨ cls c = 3 ∨ cls c = 4 := by
 have := all_bytes' (p := fun c => decide (cls c = 0 ∨ cls c = 1 ∨ cls c = 2 ∨ cls c = 3 ∨ cls c = 4)) (by decide +kernel) c
 exact of_decide_eq_true this
theorem pe_le (c : UInt8) : (Bpt.le c).c.b = pe c := by
 rw [← pesc_pe]
 unfold pesc
 by_cases h : c = 42 ∨ c = 63 ∨ c = 92
 ·rw [le_b2 h, if_pos h]
 ·rw [le_b h, if_neg h]
theorem cls0_le {c : UInt8} (h : cls c = 0) : (Bpt.le c).c.b = [c] := by
 refine le_b fun e => ?_
 have := (cls34 c).2 e
 omega
theorem runL_bpt : ∀ (N : Nat) (l : List UInt8) (r : Rn), l.length ≤ N → runL l = some r →
  ∃ bl : List Bpt, (∀ x ∈ bl, x.ok) ∧ r.pat = ptC bl ∧ (bl.any Bpt.isWi = true ↔ 0 < r.wilds) ∧ r.text.length + r.wilds = bl.length ∧ (∀ c t, l = c :: t → cls c ≠ 1 → cls c ≠ 2 → bl ≠ [])
 | N, [], r, _, h => by
  rw [runL] at h
  cases h
  exact ⟨[], by simp, rfl, by simp, rfl, fun c t e => by cases e⟩
 | 0, c :: t, r, hl, h => by simp at hl
 | N + 1, [c], r, hl, h => by
  rw [runL] at h
  rcases cls_cases c with e | e | e | e | e <;> simp only [e] at h
  ·cases h
   exact ⟨[.le c], fun x hx => by rw [List.mem_singleton.1 hx]; trivial, by rw [ptC_cons, cls0_le e]; rfl, by simp [Bpt.isWi], rfl, fun _ _ _ _ _ => by simp⟩
  ·cases h
   exact ⟨[], by simp, rfl, by simp, rfl, fun d u e2 h1 _ => by injection e2 with e2 _; rw [← e2] at h1; exact absurd e h1⟩
  ·cases h
   exact ⟨[], by simp, rfl, by simp, rfl, fun d u e2 _ h1 => by injection e2 with e2 _; rw [← e2] at h1; exact absurd e h1⟩
  ·cases h
   exact ⟨[.wi c], fun x hx => by rw [List.mem_singleton.1 hx]; exact e, rfl, by simp [Bpt.isWi], rfl, fun _ _ _ _ _ => by simp⟩
  ·cases h
 | N + 1, c :: d :: t, r, hl, h => by
  rw [runL] at h
  have hl2 : (d :: t).length ≤ N := by simpa using hl
  rcases cls_cases c with e | e | e | e | e <;> simp only [e] at h
  ·obtain ⟨r2, h2, rfl⟩ := Option.map_eq_some_iff.1 h
   obtain ⟨bl, g1, g2, g3, g4, _⟩ := runL_bpt N (d :: t) r2 hl2 h2
   refine ⟨.le c :: bl, fun x hx => ?_, by rw [ptC_cons, cls0_le e, ← g2]; rfl, ?_, ?_, fun _ _ _ _ _ => by simp⟩
   ·rcases List.mem_cons.1 hx with rfl | hx
    ·trivial
    ·exact g1 x hx
   ·rw [List.any_cons]
    show (false || bl.any Bpt.isWi) = true ↔ 0 < 0 + r2.wilds
    rw [Bool.false_or, Nat.zero_add]; exact g3
   ·show ([c] ++ r2.text).length + (0 + r2.wilds) = _
    simp; omega
  ·cases h
   exact ⟨[], by simp, rfl, by simp, rfl, fun d u e2 h1 _ => by injection e2 with e2 _; rw [← e2] at h1; exact absurd e h1⟩
  ·cases h
   exact ⟨[], by simp, rfl, by simp, rfl, fun d u e2 _ h1 => by injection e2 with e2 _; rw [← e2] at h1; exact absurd e h1⟩
  ·obtain ⟨r2, h2, rfl⟩ := Option.map_eq_some_iff.1 h
   obtain ⟨bl, g1, g2, g3, g4, _⟩ := runL_bpt N (d :: t) r2 hl2 h2
   refine ⟨.wi c :: bl, fun x hx => ?_, by rw [ptC_cons, ← g2]; rfl, ?_, ?_, fun _ _ _ _ _ => by simp⟩
   ·rcases List.mem_cons.1 hx with rfl | hx
    ·exact e
    ·exact g1 x hx
   ·rw [List.any_cons]
    show (true || bl.any Bpt.isWi) = true ↔ 0 < 1 + r2.wilds
    simp
    omega
   ·show ([] ++ r2.text).length + (1 + r2.wilds) = _
    simp; omega
  ·obtain ⟨r2, h2, rfl⟩ := Option.map_eq_some_iff.1 h
   obtain ⟨bl, g1, g2, g3, g4, _⟩ := runL_bpt N t r2 (by simp at hl2; omega) h2
   refine ⟨.le d :: bl, fun x hx => ?_, by rw [ptC_cons, pe_le, ← g2]; rfl, ?_, ?_, fun _ _ _ _ _ => by simp⟩
   ·rcases List.mem_cons.1 hx with rfl | hx
    ·trivial
    ·exact g1 x hx
   ·rw [List.any_cons]
    show (false || bl.any Bpt.isWi) = true ↔ 0 < 0 + r2.wilds
    rw [Bool.false_or, Nat.zero_add]; exact g3
   ·show ([d] ++ r2.text).length + (0 + r2.wilds) = _
    simp; omega
def GTok (k : Int) (text : List UInt8) (n : Int) : Prop :=
 (k = 1 → text ≠ []) ∧ (k = 2 → ∃ bl : List Bpt, (∀ x ∈ bl, x.ok) ∧ text = ptC bl ∧ bl.any Bpt.isWi = true) ∧ (k = 18 ∨ k = 19 ∨ k = 21 → 0 ≤ n ∧ n ≤ 999999999) ∧ (k = 20 → n ≤ 999999999)
theorem gtok_other {k n : Int} {text : List UInt8} (h : k ≠ 1 ∧ k ≠ 2 ∧ k ≠ 18 ∧ k ≠ 19 ∧ k ≠ 20 ∧ k ≠ 21) : GTok k text n :=
 ⟨fun e => absurd e h.1, fun e => absurd e h.2.1, fun e => by omega, fun e => absurd e h.2.2.2.2.1⟩
theorem gtok_num {kind : Int} {l : List UInt8} {m : Nat} {k : Tk} (hk : kind = 18 ∨ kind = 19 ∨ kind = 20 ∨ kind = 21) (h : numTk kind l m = some k) : GTok k.kind k.text k.n := by
 unfold numTk at h
 split at h
 ·rename_i hn
  cases h
  have := of_decide_eq_true hn
  exact ⟨fun e => by simp only [] at e; omega, fun e => by simp only [] at e; omega, fun _ => by simp only []; omega, fun _ => by simp only []; omega⟩
 ·cases h
theorem single_bd (c : UInt8) : singleK c = 0 ∨ (8 ≤ singleK c ∧ singleK c ≤ 17) := by
 have := all_bytes' (p := fun c => decide (singleK c = 0 ∨ (8 ≤ singleK c ∧ singleK c ≤ 17))) (by decide +kernel) c
 exact of_decide_eq_true this
theorem tok_gtok {c : UInt8} {t : List UInt8} {k : Tk} (h : tokOf (c :: t) = some k) (hc : cls c ≠ 1) : GTok k.kind k.text k.n := by
 rw [tokOf] at h
 have hs := single_bd c
 by_cases h1 : singleK c ≠ 0
 ·rw [if_pos h1] at h
  cases h
  exact gtok_other (by simp only []; omega)
 rw [if_neg h1] at h
 by_cases h2 : c = 34
 ·rw [if_pos h2] at h
  obtain ⟨x, _, rfl⟩ := Option.map_eq_some_iff.1 h
  exact gtok_other (by simp only []; omega)
 rw [if_neg h2] at h
 by_cases h3 : c = 94
 ·rw [if_pos h3] at h
  split at h
  ·exact gtok_num (by omega) h
  ·exact gtok_num (by omega) h
 rw [if_neg h3] at h
 by_cases h4 : c = 126
 ·rw [if_pos h4] at h
  split at h
  ·cases h
   exact ⟨fun e => by simp only [] at e; omega, fun e => by simp only [] at e; omega, fun e => by simp only [] at e; omega, fun _ => by simp only []; omega⟩
  ·exact gtok_num (by omega) h
 rw [if_neg h4] at h
 by_cases h5 : c = 64
 ·rw [if_pos h5] at h
  exact gtok_num (by omega) h
 rw [if_neg h5] at h
 unfold runTk at h
 obtain ⟨r, hr, rfl⟩ := Option.map_eq_some_iff.1 h
 obtain ⟨bl, g1, g2, g3, g4, g5⟩ := runL_bpt _ _ _ (Nat.le_refl _) hr
 have hne := g5 c t rfl hc (cls_mark (by simpa using h1) h2 h3 h4 h5)
 by_cases hw : 0 < r.wilds
 ·rw [if_pos hw]
  exact ⟨fun e => by simp only [] at e; omega, fun _ => ⟨bl, g1, g2, g3.2 hw⟩, fun e => by simp only [] at e; omega, fun e => by simp only [] at e; omega⟩
 ·rw [if_neg hw]
  have hlen : 0 < bl.length := List.length_pos_iff.2 hne
  rcases kwd_1or ((c :: t).take r.len) with e | e | e | e | e
  ·simp only [e, if_true]
   refine ⟨fun _ => ?_, fun e => by omega, fun e => by omega, fun e => by omega⟩
   intro e2
   rw [e2] at g4
   simp at g4
   omega
  all_goals
   rw [e]
   first | exact gtok_other (k := kwd [65, 78, 68]) (by decide) | exact gtok_other (k := kwd [79, 82]) (by decide) | exact gtok_other (k := kwd [78, 79, 84]) (by decide) | exact gtok_other (k := kwd [84, 79]) (by decide)
theorem scanF_gtok {f : Nat} : ∀ {l : List UInt8} {i : Nat} {la : List Lx}, scanF f l i = (la, none) → ∀ x ∈ la, GTok x.kind x.text x.n := by
 induction f with
 | zero => intro l i la h; simp [scanF] at h
 | succ f ih =>
  intro l i la h
  cases l with
  | nil =>
   rw [scanF] at h
   simp only [Prod.mk.injEq, and_true] at h
   rw [← h]
   intro x hx
   rw [List.mem_singleton] at hx
   subst hx
   exact gtok_other (k := 0) (by decide)
  | cons c t =>
   rw [scanF] at h
   split at h
   ·exact ih h
   ·rename_i hc
    split at h
    ·cases h
    ·rename_i k ht
     rcases hr : scanF f ((c :: t).drop k.len) (i + k.len) with ⟨u, _ | z⟩
     ·rw [hr] at h
      simp only [ahead, List.singleton_append, Prod.mk.injEq, and_true] at h
      rw [← h]
      intro x hx
      rw [List.mem_cons] at hx
      rcases hx with rfl | hx
      ·exact tok_gtok ht hc
      ·exact ih hr x hx
     ·rw [hr] at h
      simp [ahead] at h
theorem toks_gtok {l : List UInt8} {T : List Lt} (h : Toks l T) : ∀ t ∈ T, GTok t.kind t.text t.n := by
 obtain ⟨la, e, hs, he, hl⟩ := h
 intro t ht
 have h1 : lk t ∈ la.map lkX := by rw [hl]; exact List.mem_map.2 ⟨t, ht, rfl⟩
 obtain ⟨x, hx, hxt⟩ := List.mem_map.1 h1
 have h2 := scanF_gtok hs x (List.mem_append_left _ hx)
 unfold lk lkX at hxt
 simp only [Prod.mk.injEq] at hxt
 rw [← hxt.1, ← hxt.2.1, ← hxt.2.2]; exact h2
theorem wildP_bpt : ∀ (bl : List Bpt), (∀ x ∈ bl, x.ok) → ∀ (i m : Nat) (last : Int), ∃ m' last', wildP (ptC bl) i m last = some (m', last') ∧ m ≤ m' ∧ (m' = m → last' = last)
 | [], _, i, m, last => ⟨m, last, rfl, Nat.le_refl _, fun _ => rfl⟩
 | x :: bl, h, i, m, last => by
  have ih := wildP_bpt bl (fun y hy => h y (List.mem_cons_of_mem _ hy))
  rw [ptC_cons]
  cases x with
  | le c =>
   by_cases hc : c = 42 ∨ c = 63 ∨ c = 92
   ·obtain ⟨m', last', e, h1, h2⟩ := ih (i + 2) m last
    refine ⟨m', last', ?_, h1, h2⟩
    rw [le_b2 hc]
    show wildP (92 :: c :: ptC bl) i m last = _
    rw [wildP.eq_def]
    simp only [if_neg (show ¬ (92 : UInt8) = 42 by decide), if_neg (show ¬ (92 : UInt8) = 63 by decide), if_true, if_pos hc]
    exact e
   ·obtain ⟨m', last', e, h1, h2⟩ := ih (i + 1) m last
    refine ⟨m', last', ?_, h1, h2⟩
    rw [le_b hc]
    show wildP (c :: ptC bl) i m last = _
    rw [wildP.eq_def]
    simp only [if_neg (fun e => hc (.inl e) : ¬ c = 42), if_neg (fun e => hc (.inr (.inl e)) : ¬ c = 63), if_neg (fun e => hc (.inr (.inr e)) : ¬ c = 92)]
    exact e
  | wi c =>
   have h3 : cls c = 3 := h _ List.mem_cons_self
   have hc : c = 42 ∨ c = 63 := by
    rcases (cls34 c).1 (.inl h3) with e | e | e
    ·exact .inl e
    ·exact .inr e
    ·exact absurd e (wi_ne h3)
   rcases hc with rfl | rfl
   ·obtain ⟨m', last', e, h1, h2⟩ := ih (i + 1) (m + 1) i
    refine ⟨m', last', ?_, by omega, fun _ => by omega⟩
    show wildP (42 :: ptC bl) i m last = _
    rw [wildP.eq_def]
    simp only [if_true]
    exact e
   ·obtain ⟨m', last', e, h1, h2⟩ := ih (i + 1) (m + 2) last
    refine ⟨m', last', ?_, by omega, fun _ => by omega⟩
    show wildP (63 :: ptC bl) i m last = _
    rw [wildP.eq_def]
    simp only [if_neg (show ¬ (63 : UInt8) = 42 by decide), if_true]
    exact e
theorem first_wild : ∀ (bl : List Bpt), (∀ x ∈ bl, x.ok) → bl.any Bpt.isWi = true → ∃ (s : List UInt8) (c : UInt8) (rest : List Bpt), bl = s.map Bpt.le ++ .wi c :: rest ∧ (c = 42 ∨ c = 63)
 | [], _, h => by simp at h
 | .wi c :: bl, hok, _ => by
  have h3 : cls c = 3 := hok _ List.mem_cons_self
  refine ⟨[], c, bl, rfl, ?_⟩
  rcases (cls34 c).1 (.inl h3) with e | e | e
  ·exact .inl e
  ·exact .inr e
  ·exact absurd e (wi_ne h3)
 | .le c :: bl, hok, h => by
  obtain ⟨s, d, rest, e, hd⟩ := first_wild bl (fun y hy => hok y (List.mem_cons_of_mem _ hy)) (by simpa [Bpt.isWi] using h)
  exact ⟨c :: s, d, rest, by rw [e]; rfl, hd⟩
theorem ptC_app (a b : List Bpt) : ptC (a ++ b) = ptC a ++ ptC b := by unfold ptC; rw [List.map_append, atB_append]
theorem lit_map (s : List UInt8) : ptC (s.map Bpt.le) = litL s := by
 have h := lit_ptC s
 rw [ptC_app] at h
 have h2 : ptC [.wi 42] = [42] := rfl
 rw [h2] at h
 rw [litL_pe]
 exact (List.append_cancel_right h).symm
theorem wildP_lit : ∀ (s r : List UInt8) (i m : Nat) (last : Int), wildP (litL s ++ r) i m last = wildP r (i + (litL s).length) m last
 | [], r, i, m, last => rfl
 | c :: s, r, i, m, last => by
  have e : litL (c :: s) = pesc c ++ litL s := by unfold litL; rw [List.flatMap_cons]
  rw [e, List.append_assoc]
  unfold pesc
  by_cases hc : c = 42 ∨ c = 63 ∨ c = 92
  ·rw [if_pos hc]
   show wildP (92 :: c :: (litL s ++ r)) i m last = _
   rw [wildP.eq_def]
   simp only [if_neg (show ¬ (92 : UInt8) = 42 by decide), if_neg (show ¬ (92 : UInt8) = 63 by decide), if_true, if_pos hc]
   rw [wildP_lit s r (i + 2) m last]
   simp only [List.length_append, List.length_cons, List.length_nil]
   rw [show i + 2 + (litL s).length = i + (0 + 1 + 1 + (litL s).length) from by omega]
  ·rw [if_neg hc]
   show wildP (c :: (litL s ++ r)) i m last = _
   rw [wildP.eq_def]
   simp only [if_neg (fun e => hc (.inl e) : ¬ c = 42), if_neg (fun e => hc (.inr (.inl e)) : ¬ c = 63), if_neg (fun e => hc (.inr (.inr e)) : ¬ c = 92)]
   rw [wildP_lit s r (i + 1) m last]
   simp only [List.length_append, List.length_cons, List.length_nil]
   rw [show i + 1 + (litL s).length = i + (0 + 1 + (litL s).length) from by omega]
theorem patN_good {bl : List Bpt} (hok : ∀ x ∈ bl, x.ok) (hw : bl.any Bpt.isWi = true) (f : List UInt8) : ∃ kd tx, patN f (ptC bl) = ndLeaf kd f tx 0 ∧ ((kd = 7 ∧ tx = []) ∨ (kd = 3 ∧ tx ≠ []) ∨ (kd = 4 ∧ wildB tx = true)) := by
 obtain ⟨s, c, rest, rfl, hc⟩ := first_wild bl hok hw
 have e : ptC (s.map Bpt.le ++ .wi c :: rest) = litL s ++ c :: ptC rest := by rw [ptC_app, lit_map, ptC_cons]; rfl
 by_cases h42 : c = 42 ∧ rest = []
 ·obtain ⟨rfl, rfl⟩ := h42
  rw [e]
  by_cases hs : s = []
  ·subst hs
   exact ⟨7, [], rfl, .inl ⟨rfl, rfl⟩⟩
  ·exact ⟨3, s, (toks_lit hs).2 f, .inr (.inl ⟨rfl, hs⟩)⟩
 ·have hwb : wildB (ptC (s.map Bpt.le ++ .wi c :: rest)) = true := by
   have hrok : ∀ x ∈ rest, x.ok := fun x hx => hok x (List.mem_append_right _ (List.mem_cons_of_mem _ hx))
   rw [e]
   unfold wildB
   rw [wildP_lit, Nat.zero_add]
   rcases hc with rfl | rfl
   ·obtain ⟨m', last', e2, h1, h2⟩ := wildP_bpt rest hrok ((litL s).length + 1) 1 (litL s).length
    have e3 : wildP (42 :: ptC rest) (litL s).length 0 (-1) = some (m', last') := by
     rw [wildP.eq_def]; simp only [if_true]; exact e2
    rw [e3]
    simp only [Bool.or_eq_true, Bool.and_eq_true, decide_eq_true_eq]
    by_cases hm : 1 < m'
    ·exact .inl hm
    ·refine .inr ⟨by omega, ?_⟩
     rw [h2 (by omega), List.length_append, List.length_cons]
     have hr : rest ≠ [] := fun e => h42 ⟨rfl, e⟩
     have hp : 0 < (ptC rest).length := by
      cases rest with
      | nil => exact absurd rfl hr
      | cons x r =>
       rw [ptC_cons, List.length_append]
       have : 0 < x.c.b.length := by
        cases x with
        | wi c => show 0 < [c].length; simp
        | le c =>
         by_cases hc : c = 42 ∨ c = 63 ∨ c = 92
         ·rw [le_b2 hc]; simp
         ·rw [le_b hc]; simp
       omega
     omega
   ·obtain ⟨m', last', e2, h1, h2⟩ := wildP_bpt rest hrok ((litL s).length + 1) 2 (-1)
    have e3 : wildP (63 :: ptC rest) (litL s).length 0 (-1) = some (m', last') := by
     rw [wildP.eq_def]; simp only [if_neg (show ¬ (63 : UInt8) = 42 by decide), if_true]; exact e2
    rw [e3]
    simp only [Bool.or_eq_true, Bool.and_eq_true, decide_eq_true_eq]
    exact .inl (by omega)
  exact ⟨4, _, (toks_wild hwb).2 f, .inr (.inr ⟨rfl, hwb⟩)⟩
end Go.Proofs.YthcldpminmhgkaaDoor
end
