/- Merged for a claim by shake.py: Hd He Db -/
import Derived.Test.YtcomdkejpaoneaaDoorKg1
import Derived.Test.YtcomdkejpaoneaaDoorKg12
import Derived.Test.YtcomdkejpaoneaaDoorKg16
import Derived.Test.YtcomdkejpaoneaaDoorKg17
import Derived.Test.YtcomdkejpaoneaaDoorKg18
section
namespace Go.Proofs.YtcomdkejpaoneaaDoor
open Go.RowKit
set_option maxRecDepth 100000
set_option maxHeartbeats 3000000
set_option linter.unusedSimpArgs false
set_option linter.unusedVariables false
def kd (row : List Lt) (k : Nat) : Int := (row[k]?.map Lt.kind).getD 0
theorem kd_at {row : List Lt} {k : Nat} {t : Lt} (h : row[k]? = some t) : kd row k = t.kind := by unfold kd; rw [h]; rfl
structure ChAt (w : World) (B cb : Nat) (A : Option Addr) (cap : Nat) (row : List Lt) (n : Nat) (S : Nat → Addr) (K : Nat → Nat) (G : Nat → Nat → Addr) (V : Nat → Nat → Nat → Nat) : Prop where
  row_ : CrAt w B cb A cap row
  len : row.length = n + 1
  base : B ≤ cb
  top : ∀ p, p < 11 → w.cell? ⟨cb, 1 + p, none⟩ = some (.slice (some (S p)) (n + 1) (K p))
  mid : ∀ p i, p < 11 → i ≤ n → w.cell? ((S p).add i) = some (.slice (some (G p i)) (n + 1) (n + 1))
  rows : ∀ p i, p < 11 → i ≤ n → ∃ cs, Blk w (G p i).block 3 cs ∧ ∀ j, j ≤ n → cs[j]? = some (.int .i64 (V p i j : Nat))
  plain : ∀ p i, p < 11 → i ≤ n → G p i = ⟨(G p i).block, 0, none⟩
  lt : ∀ p i, p < 11 → i ≤ n → cb < (G p i).block ∧ (G p i).block < w.heap.size
  sep : ∀ p q i, p < 11 → q < 11 → i ≤ n → (S p).block ≠ (G q i).block
  ne : ∀ p q i k, p < 11 → q < 11 → i ≤ n → k ≤ n → (p ≠ q ∨ i ≠ k) → (G p i).block ≠ (G q k).block
theorem ChAt.addr {w : World} {B cb n cap : Nat} {A : Option Addr} {row : List Lt} {S : Nat → Addr} {K : Nat → Nat} {G : Nat → Nat → Addr} {V : Nat → Nat → Nat → Nat} (h : ChAt w B cb A cap row n S K G V) (p i j : Nat) (hp : p < 11) (hi : i ≤ n) : (G p i).add j = ⟨(G p i).block, j, none⟩ := by
  obtain ⟨g, hg⟩ : ∃ g, G p i = ⟨g, 0, none⟩ := ⟨_, h.plain p i hp hi⟩
  rw [hg]
  clear hg h
  unfold Addr.add
  by_cases hj : j = 0
  · rw [if_pos hj, hj]
  · rw [if_neg hj, Nat.zero_add]
theorem ChAt.bot {w : World} {B cb n cap : Nat} {A : Option Addr} {row : List Lt} {S : Nat → Addr} {K : Nat → Nat} {G : Nat → Nat → Addr} {V : Nat → Nat → Nat → Nat} (h : ChAt w B cb A cap row n S K G V) (p i j : Nat) (hp : p < 11) (hi : i ≤ n) (hj : j ≤ n) : w.cell? ((G p i).add j) = some (.int .i64 (V p i j : Nat)) ∧ w.frozen? ((G p i).add j) = false := by
  obtain ⟨cs, hb, hc⟩ := h.rows p i hp hi
  rw [h.addr p i j hp hi, hb.cell, hb.frozen]
  exact ⟨hc j hj, rfl⟩
theorem ChAt.kd_is {w : World} {B cb n cap : Nat} {A : Option Addr} {row : List Lt} {S : Nat → Addr} {K : Nat → Nat} {G : Nat → Nat → Addr} {V : Nat → Nat → Nat → Nat} (h : ChAt w B cb A cap row n S K G V) (x k : Int) (i : Nat) (hx : x = (i : Int)) (hi : i ≤ n) :
    Calls Tryd.prog 66 #[.pointer (some ⟨cb, 0, none⟩), .int .i64 x, .int .i64 k] w fun e w' => e = .returned (.bool (kd row i == k)) ∧ w' = w := by
  have hlt : i < row.length := by rw [h.len]; omega
  have ht : row[i]? = some row[i] := List.getElem?_eq_getElem hlt
  rw [kd_at ht]
  exact is_any h.row_ x k row[i] (by omega) (by rw [hx, Int.toNat_natCast]; exact ht)
def grN (row : List Lt) (V : Nat → Nat → Nat → Nat) (i j : Nat) : Nat :=
  if kd row i = 8 then (if 3 ≤ j - i ∧ kd row (j - 1) = 9 then V 10 (i + 1) (j - 1) else 0) + (if 4 ≤ j - i ∧ kd row (j - 1) = 21 ∧ kd row (j - 2) = 9 then V 10 (i + 1) (j - 2) else 0) else 0
theorem groups_any {w : World} {B cb n cap : Nat} {A : Option Addr} {row : List Lt} {S : Nat → Addr} {K : Nat → Nat} {G : Nat → Nat → Addr} {V : Nat → Nat → Nat → Nat} (h : ChAt w B cb A cap row n S K G V) (i j : Nat) (hij : i < j) (hj : j ≤ n) (hV : ∀ p i j, V p i j ≤ 1) :
    Calls Tryd.prog 64 #[.pointer (some ⟨cb, 0, none⟩), .int .i64 (i : Int), .int .i64 (j : Int)] w fun e w' => e = .returned (.int .i64 ((grN row V i j : Nat) : Int)) ∧ w' = w := by
  have hn : n ≤ 100 := by have := h.row_.small; have := h.len; omega
  have HO := Lib.hid (h.kd_is (i : Int) 8 i rfl (by omega))
  obtain ⟨m, hm⟩ : ∃ m, m = j - 1 := ⟨_, rfl⟩
  obtain ⟨s, hs⟩ : ∃ s, s = j - i := ⟨_, rfl⟩
  have HC := Lib.hid (h.kd_is (m : Int) 9 m rfl (by omega))
  have HL := Lib.hid (h.kd_is (m : Int) 21 m rfl (by omega))
  have hji : ((j : Int) - (i : Int)) = (s : Int) := by omega
  have hj1 : ((j : Int) - 1) = (m : Int) := by omega
  have HG := Lib.hid (show grN row V i j = if kd row i = 8 then (if 3 ≤ s ∧ kd row m = 9 then V 10 (i + 1) m else 0) + (if 4 ≤ s ∧ kd row m = 21 ∧ kd row (j - 2) = 9 then V 10 (i + 1) (j - 2) else 0) else 0 from by rw [hs, hm]; rfl)
  have hmn : m ≤ n := by omega
  have hsn : s ≤ 100 := by omega
  have tx : w.cell? ⟨cb, 11, none⟩ = some (.slice (some (S 10)) (n + 1) (K 10)) := h.top 10 (by omega)
  have mx := h.mid 10 (i + 1) (by omega) (by omega)
  rw [Addr.add, if_neg (show ¬ (i + 1 = 0) from Nat.succ_ne_zero _)] at mx
  have bx := (h.bot 10 (i + 1) (m) (by omega) (by omega) (by omega)).1
  clear hm hs
  have hvx := hV 10 (i + 1) m
  by_cases h8 : kd row i = 8
  rotate_left
  · have e8 : (kd row i == 8) = false := by simpa using h8
    have HV := Lib.hid (show grN row V i j = 0 from by rw [HG.out, if_neg h8])
    clear h8 h hV HG
    go_enter Tryd.func64, Tryd.ntmps64
    go_wp2_with (first | (with_reducible refine HO.out.mono ?_; rintro e w' ⟨rfl, rfl⟩) | (with_reducible refine HC.out.mono ?_; rintro e w' ⟨rfl, rfl⟩) | (with_reducible refine HL.out.mono ?_; rintro e w' ⟨rfl, rfl⟩))
    all_goals go_ret
    all_goals refine ⟨?_, rfl⟩
    all_goals rw [HV.out]
    all_goals rfl
  have e8 : (kd row i == 8) = true := by simpa using h8
  by_cases h3 : 3 ≤ s
  rotate_left
  · have d3 : decide ((s : Int) ≥ 3) = false := by simp; omega
    have d4 : decide ((s : Int) ≥ 4) = false := by simp; omega
    have d3b : ¬ ((3 : Int) ≤ (s : Int)) := by omega
    have d4b : ¬ ((4 : Int) ≤ (s : Int)) := by omega
    have HV := Lib.hid (show grN row V i j = 0 from by rw [HG.out, if_pos h8, if_neg (fun h => h3 h.1), if_neg (fun h => by omega)])
    clear h8 h3 h hV HG
    go_enter Tryd.func64, Tryd.ntmps64
    go_wp2_with (first | (with_reducible refine HO.out.mono ?_; rintro e w' ⟨rfl, rfl⟩) | (with_reducible refine HC.out.mono ?_; rintro e w' ⟨rfl, rfl⟩) | (with_reducible refine HL.out.mono ?_; rintro e w' ⟨rfl, rfl⟩))
    all_goals go_ret
    all_goals refine ⟨?_, rfl⟩
    all_goals rw [HV.out]
    all_goals rfl
  have d3 : decide ((s : Int) ≥ 3) = true := by simp; omega
  have d3b : (3 : Int) ≤ (s : Int) := by omega
  by_cases h9 : kd row m = 9
  · have e9 : (kd row m == 9) = true := by simpa using h9
    have e21 : (kd row m == 21) = false := by rw [h9]; decide
    have HV := Lib.hid (show grN row V i j = V 10 (i + 1) m from by rw [HG.out, if_pos h8, if_pos ⟨h3, h9⟩, if_neg (fun h => by omega)]; rfl)
    clear h8 h9 hV HG
    generalize V 10 (i + 1) m = vx at *
    by_cases h4 : 4 ≤ s
    · have d4 : decide ((s : Int) ≥ 4) = true := by simp; omega
      have d4b : (4 : Int) ≤ (s : Int) := by omega
      clear h4 h3 h
      go_enter Tryd.func64, Tryd.ntmps64
      go_wp2_with (first | (with_reducible refine HO.out.mono ?_; rintro e w' ⟨rfl, rfl⟩) | (with_reducible refine HC.out.mono ?_; rintro e w' ⟨rfl, rfl⟩) | (with_reducible refine HL.out.mono ?_; rintro e w' ⟨rfl, rfl⟩))
      all_goals go_ret
      all_goals refine ⟨?_, rfl⟩
      all_goals rw [HV.out]
      all_goals rfl
    have d4 : decide ((s : Int) ≥ 4) = false := by simp; omega
    have d4b : ¬ ((4 : Int) ≤ (s : Int)) := by omega
    clear h4 h3 h
    go_enter Tryd.func64, Tryd.ntmps64
    go_wp2_with (first | (with_reducible refine HO.out.mono ?_; rintro e w' ⟨rfl, rfl⟩) | (with_reducible refine HC.out.mono ?_; rintro e w' ⟨rfl, rfl⟩) | (with_reducible refine HL.out.mono ?_; rintro e w' ⟨rfl, rfl⟩))
    all_goals go_ret
    all_goals refine ⟨?_, rfl⟩
    all_goals rw [HV.out]
    all_goals rfl
  have e9 : (kd row m == 9) = false := by simpa using h9
  by_cases h4 : 4 ≤ s
  rotate_left
  · have d4 : decide ((s : Int) ≥ 4) = false := by simp; omega
    have d4b : ¬ ((4 : Int) ≤ (s : Int)) := by omega
    have HV := Lib.hid (show grN row V i j = 0 from by rw [HG.out, if_pos h8, if_neg (fun h => h9 h.2), if_neg (fun h => h4 h.1)])
    clear h8 h9 h3 h4 h hV HG
    go_enter Tryd.func64, Tryd.ntmps64
    go_wp2_with (first | (with_reducible refine HO.out.mono ?_; rintro e w' ⟨rfl, rfl⟩) | (with_reducible refine HC.out.mono ?_; rintro e w' ⟨rfl, rfl⟩) | (with_reducible refine HL.out.mono ?_; rintro e w' ⟨rfl, rfl⟩))
    all_goals go_ret
    all_goals refine ⟨?_, rfl⟩
    all_goals rw [HV.out]
    all_goals rfl
  have d4 : decide ((s : Int) ≥ 4) = true := by simp; omega
  have d4b : (4 : Int) ≤ (s : Int) := by omega
  obtain ⟨m2, hm2⟩ : ∃ m2, m2 = j - 2 := ⟨_, rfl⟩
  rw [← hm2] at HG
  have hj2 : ((j : Int) - 2) = (m2 : Int) := by omega
  have HD := Lib.hid (h.kd_is (m2 : Int) 9 m2 rfl (by omega))
  have hmn2 : m2 ≤ n := by omega
  have tv : w.cell? ⟨cb, 11, none⟩ = some (.slice (some (S 10)) (n + 1) (K 10)) := h.top 10 (by omega)
  have mv := h.mid 10 (i + 1) (by omega) (by omega)
  rw [Addr.add, if_neg (show ¬ (i + 1 = 0) from Nat.succ_ne_zero _)] at mv
  have bv := (h.bot 10 (i + 1) (m2) (by omega) (by omega) (by omega)).1
  clear hm2
  have hvy := hV 10 (i + 1) m2
  by_cases h21 : kd row m = 21
  rotate_left
  · have e21 : (kd row m == 21) = false := by simpa using h21
    have HV := Lib.hid (show grN row V i j = 0 from by rw [HG.out, if_pos h8, if_neg (fun h => h9 h.2), if_neg (fun h => h21 h.2.1)])
    clear h8 h9 h3 h4 h21 h hV HG
    go_enter Tryd.func64, Tryd.ntmps64
    go_wp2_with (first | (with_reducible refine HO.out.mono ?_; rintro e w' ⟨rfl, rfl⟩) | (with_reducible refine HC.out.mono ?_; rintro e w' ⟨rfl, rfl⟩) | (with_reducible refine HL.out.mono ?_; rintro e w' ⟨rfl, rfl⟩))
    all_goals go_ret
    all_goals refine ⟨?_, rfl⟩
    all_goals rw [HV.out]
    all_goals rfl
  have e21 : (kd row m == 21) = true := by simpa using h21
  by_cases h92 : kd row m2 = 9
  · have e92 : (kd row m2 == 9) = true := by simpa using h92
    have HV := Lib.hid (show grN row V i j = V 10 (i + 1) m2 from by rw [HG.out, if_pos h8, if_neg (fun h => h9 h.2), if_pos ⟨h4, h21, h92⟩, Nat.zero_add])
    clear h8 h9 h3 h4 h21 h92 hV HG
    generalize V 10 (i + 1) m2 = vy at *
    clear h
    go_enter Tryd.func64, Tryd.ntmps64
    go_wp2_with (first | (with_reducible refine HO.out.mono ?_; rintro e w' ⟨rfl, rfl⟩) | (with_reducible refine HC.out.mono ?_; rintro e w' ⟨rfl, rfl⟩) | (with_reducible refine HL.out.mono ?_; rintro e w' ⟨rfl, rfl⟩) | (with_reducible refine HD.out.mono ?_; rintro e w' ⟨rfl, rfl⟩))
    all_goals go_ret
    all_goals refine ⟨?_, rfl⟩
    all_goals rw [HV.out]
    all_goals rfl
  have e92 : (kd row m2 == 9) = false := by simpa using h92
  have HV := Lib.hid (show grN row V i j = 0 from by rw [HG.out, if_pos h8, if_neg (fun h => h9 h.2), if_neg (fun h => h92 h.2.2)])
  clear h8 h9 h3 h4 h21 h92 h hV HG
  go_enter Tryd.func64, Tryd.ntmps64
  go_wp2_with (first | (with_reducible refine HO.out.mono ?_; rintro e w' ⟨rfl, rfl⟩) | (with_reducible refine HC.out.mono ?_; rintro e w' ⟨rfl, rfl⟩) | (with_reducible refine HL.out.mono ?_; rintro e w' ⟨rfl, rfl⟩) | (with_reducible refine HD.out.mono ?_; rintro e w' ⟨rfl, rfl⟩))
  all_goals go_ret
  all_goals refine ⟨?_, rfl⟩
  all_goals rw [HV.out]
  all_goals rfl
def clN (row : List Lt) (V : Nat → Nat → Nat → Nat) (i j : Nat) : Nat := V 8 i j + (if 2 ≤ j - i ∧ (kd row i = 15 ∨ kd row i = 16) then V 5 (i + 1) j else 0)
theorem cclauses_any {w : World} {B cb n cap : Nat} {A : Option Addr} {row : List Lt} {S : Nat → Addr} {K : Nat → Nat} {G : Nat → Nat → Addr} {V : Nat → Nat → Nat → Nat} (h : ChAt w B cb A cap row n S K G V) (i j : Nat) (hij : i < j) (hj : j ≤ n) (hV : ∀ p i j, V p i j ≤ 1) :
    Calls Tryd.prog 68 #[.pointer (some ⟨cb, 0, none⟩), .int .i64 (i : Int), .int .i64 (j : Int)] w fun e w' => e = .returned (.int .i64 ((clN row V i j : Nat) : Int)) ∧ w' = w := by
  have hn : n ≤ 100 := by have := h.row_.small; have := h.len; omega
  have HP := Lib.hid (h.kd_is (i : Int) 15 i rfl (by omega))
  have HM := Lib.hid (h.kd_is (i : Int) 16 i rfl (by omega))
  obtain ⟨s, hs⟩ : ∃ s, s = j - i := ⟨_, rfl⟩
  have hji : ((j : Int) - (i : Int)) = (s : Int) := by omega
  have HG := Lib.hid (show clN row V i j = V 8 i j + (if 2 ≤ s ∧ (kd row i = 15 ∨ kd row i = 16) then V 5 (i + 1) j else 0) from by rw [hs]; rfl)
  have hsn : s ≤ 100 := by omega
  have tx : w.cell? ⟨cb, 9, none⟩ = some (.slice (some (S 8)) (n + 1) (K 8)) := h.top 8 (by omega)
  have mx := h.mid 8 (i) (by omega) (by omega)
  have bx := (h.bot 8 (i) (j) (by omega) (by omega) (by omega)).1
  have tv : w.cell? ⟨cb, 6, none⟩ = some (.slice (some (S 5)) (n + 1) (K 5)) := h.top 5 (by omega)
  have mv := h.mid 5 (i + 1) (by omega) (by omega)
  rw [Addr.add, if_neg (show ¬ (i + 1 = 0) from Nat.succ_ne_zero _)] at mv
  have bv := (h.bot 5 (i + 1) (j) (by omega) (by omega) (by omega)).1
  clear hs
  have hvx := hV 8 i j
  have hvy := hV 5 (i + 1) j
  by_cases h2 : 2 ≤ s
  rotate_left
  · have d2 : decide ((s : Int) ≥ 2) = false := by simp; omega
    have d2b : ¬ ((2 : Int) ≤ (s : Int)) := by omega
    have HV := Lib.hid (show clN row V i j = V 8 i j from by rw [HG.out, if_neg (fun h => h2 h.1)]; rfl)
    clear h2 h hV HG
    generalize V 8 i j = vx at *
    go_enter Tryd.func68, Tryd.ntmps68
    go_wp2_with (first | (with_reducible refine HP.out.mono ?_; rintro e w' ⟨rfl, rfl⟩) | (with_reducible refine HM.out.mono ?_; rintro e w' ⟨rfl, rfl⟩))
    all_goals go_ret
    all_goals refine ⟨?_, rfl⟩
    all_goals rw [HV.out]
    all_goals rfl
  have d2 : decide ((s : Int) ≥ 2) = true := by simp; omega
  have d2b : (2 : Int) ≤ (s : Int) := by omega
  by_cases h15 : kd row i = 15
  · have e15 : (kd row i == 15) = true := by simpa using h15
    have HV := Lib.hid (show clN row V i j = V 8 i j + V 5 (i + 1) j from by rw [HG.out, if_pos ⟨h2, .inl h15⟩])
    clear h2 h15 h hV HG
    generalize V 8 i j = vx at *
    generalize V 5 (i + 1) j = vy at *
    go_enter Tryd.func68, Tryd.ntmps68
    go_wp2_with (first | (with_reducible refine HP.out.mono ?_; rintro e w' ⟨rfl, rfl⟩) | (with_reducible refine HM.out.mono ?_; rintro e w' ⟨rfl, rfl⟩))
    all_goals go_ret
    all_goals refine ⟨?_, rfl⟩
    all_goals rw [HV.out]
    all_goals rfl
  have e15 : (kd row i == 15) = false := by simpa using h15
  by_cases h16 : kd row i = 16
  · have e16 : (kd row i == 16) = true := by simpa using h16
    have HV := Lib.hid (show clN row V i j = V 8 i j + V 5 (i + 1) j from by rw [HG.out, if_pos ⟨h2, .inr h16⟩])
    clear h2 h15 h16 h hV HG
    generalize V 8 i j = vx at *
    generalize V 5 (i + 1) j = vy at *
    go_enter Tryd.func68, Tryd.ntmps68
    go_wp2_with (first | (with_reducible refine HP.out.mono ?_; rintro e w' ⟨rfl, rfl⟩) | (with_reducible refine HM.out.mono ?_; rintro e w' ⟨rfl, rfl⟩))
    all_goals go_ret
    all_goals refine ⟨?_, rfl⟩
    all_goals rw [HV.out]
    all_goals rfl
  have e16 : (kd row i == 16) = false := by simpa using h16
  have HV := Lib.hid (show clN row V i j = V 8 i j from by rw [HG.out, if_neg (fun h => by omega)]; rfl)
  clear h2 h15 h16 h hV HG
  generalize V 8 i j = vx at *
  go_enter Tryd.func68, Tryd.ntmps68
  go_wp2_with (first | (with_reducible refine HP.out.mono ?_; rintro e w' ⟨rfl, rfl⟩) | (with_reducible refine HM.out.mono ?_; rintro e w' ⟨rfl, rfl⟩))
  all_goals go_ret
  all_goals refine ⟨?_, rfl⟩
  all_goals rw [HV.out]
  all_goals rfl
end Go.Proofs.YtcomdkejpaoneaaDoor
end
section
namespace Go.Proofs.YtcomdkejpaoneaaDoor
open Go.RowKit
set_option maxRecDepth 100000
set_option maxHeartbeats 3000000
set_option linter.unusedSimpArgs false
set_option linter.unusedVariables false
def st (row : List Lt) (k : Nat) : Bool := (row[k]?.map starT).getD false
theorem st_at {row : List Lt} {k : Nat} {t : Lt} (h : row[k]? = some t) : st row k = starT t := by unfold st; rw [h]; rfl
theorem ChAt.st_is {w : World} {B cb n cap : Nat} {A : Option Addr} {row : List Lt} {S : Nat → Addr} {K : Nat → Nat} {G : Nat → Nat → Addr} {V : Nat → Nat → Nat → Nat} (h : ChAt w B cb A cap row n S K G V) (x : Int) (i : Nat) (hx : x = (i : Int)) (hi : i ≤ n) :
    Calls Tryd.prog 94 #[.pointer (some ⟨cb, 0, none⟩), .int .i64 x] w fun e w' => e = .returned (.bool (st row i)) ∧ w' = w := by
  have hlt : i < row.length := by rw [h.len]; omega
  have ht : row[i]? = some row[i] := List.getElem?_eq_getElem hlt
  rw [st_at ht]
  exact cstar_any h.row_ x row[i] (by omega) (by rw [hx, Int.toNat_natCast]; exact ht)
def atN (row : List Lt) (V : Nat → Nat → Nat → Nat) (i j : Nat) : Nat :=
  V 2 i j + (if 3 ≤ j - i ∧ kd row i = 1 ∧ kd row (i + 1) = 14 then V 2 (i + 2) j else 0) + (if j - i = 3 ∧ st row i = true ∧ kd row (i + 1) = 14 ∧ st row (i + 2) = true then 1 else 0)
theorem atoms_any {w : World} {B cb n cap : Nat} {A : Option Addr} {row : List Lt} {S : Nat → Addr} {K : Nat → Nat} {G : Nat → Nat → Addr} {V : Nat → Nat → Nat → Nat} (h : ChAt w B cb A cap row n S K G V) (i j : Nat) (hij : i < j) (hj : j ≤ n) (hV : ∀ p i j, V p i j ≤ 1) :
    Calls Tryd.prog 65 #[.pointer (some ⟨cb, 0, none⟩), .int .i64 (i : Int), .int .i64 (j : Int)] w fun e w' => e = .returned (.int .i64 ((atN row V i j : Nat) : Int)) ∧ w' = w := by
  have hn : n ≤ 100 := by have := h.row_.small; have := h.len; omega
  obtain ⟨s, hs⟩ : ∃ s, s = j - i := ⟨_, rfl⟩
  have hji : ((j : Int) - (i : Int)) = (s : Int) := by omega
  have HG := Lib.hid (show atN row V i j = V 2 i j + (if 3 ≤ s ∧ kd row i = 1 ∧ kd row (i + 1) = 14 then V 2 (i + 2) j else 0) + (if s = 3 ∧ st row i = true ∧ kd row (i + 1) = 14 ∧ st row (i + 2) = true then 1 else 0) from by rw [hs]; rfl)
  have hsn : s ≤ 100 := by omega
  have tx : w.cell? ⟨cb, 3, none⟩ = some (.slice (some (S 2)) (n + 1) (K 2)) := h.top 2 (by omega)
  have mx := h.mid 2 (i) (by omega) (by omega)
  have bx := (h.bot 2 (i) (j) (by omega) (by omega) (by omega)).1
  have hvx := hV 2 i j
  have hvy := hV 2 (i + 2) j
  by_cases h3 : 3 ≤ s
  rotate_left
  · have d3 : decide ((s : Int) ≥ 3) = false := by simp; omega
    have d3b : ¬ ((3 : Int) ≤ (s : Int)) := by omega
    have e3 : ((s : Int) == 3) = false := by simp; omega
    have HV := Lib.hid (show atN row V i j = V 2 i j from by rw [HG.out, if_neg (fun h => h3 h.1), if_neg (fun h => by omega)]; rfl)
    clear h3 h hV HG hs
    generalize V 2 i j = vx at *
    go_enter Tryd.func65, Tryd.ntmps65
    go_wp2
    go_ret
    refine ⟨?_, rfl⟩
    rw [HV.out]
    rfl
  have d3 : decide ((s : Int) ≥ 3) = true := by simp; omega
  have d3b : (3 : Int) ≤ (s : Int) := by omega
  have H1 := Lib.hid (h.kd_is (i : Int) 1 i rfl (by omega))
  have HC := Lib.hid (h.kd_is ((i : Int) + 1) 14 (i + 1) (by omega) (by omega))
  have HS0 := Lib.hid (h.st_is (i : Int) i rfl (by omega))
  have HS2 := Lib.hid (h.st_is ((i : Int) + 2) (i + 2) (by omega) (by omega))
  have tv : w.cell? ⟨cb, 3, none⟩ = some (.slice (some (S 2)) (n + 1) (K 2)) := h.top 2 (by omega)
  have mv := h.mid 2 (i + 2) (by omega) (by omega)
  rw [Addr.add, if_neg (show ¬ (i + 2 = 0) from Nat.succ_ne_zero _)] at mv
  have bv := (h.bot 2 (i + 2) (j) (by omega) (by omega) (by omega)).1
  have hB1 : (kd row i == 1) = decide (kd row i = 1) := by by_cases h : kd row i = 1 <;> simp [h]
  have hBC : (kd row (i + 1) == 14) = decide (kd row (i + 1) = 14) := by by_cases h : kd row (i + 1) = 14 <;> simp [h]
  have hB3 : ((s : Int) == 3) = decide (s = 3) := by
    by_cases h : s = 3
    · simp [h]
    · rw [decide_eq_false h]; simp; omega
  have HV := Lib.hid (show atN row V i j = V 2 i j + (if (decide (kd row i = 1) && decide (kd row (i + 1) = 14)) = true then V 2 (i + 2) j else 0) + (if (decide (s = 3) && (st row i && (decide (kd row (i + 1) = 14) && st row (i + 2)))) = true then 1 else 0) from by
    rw [HG.out]
    simp only [Bool.and_eq_true, decide_eq_true_eq, h3, true_and])
  rw [hB1] at H1
  rw [hBC] at HC
  clear h h3 hV HG hs hB1 hBC
  generalize V 2 i j = vx at *
  generalize V 2 (i + 2) j = vy at *
  generalize decide (kd row i = 1) = b1 at *
  generalize decide (kd row (i + 1) = 14) = bc at *
  generalize decide (s = 3) = b3 at *
  generalize st row i = s0 at *
  generalize st row (i + 2) = s2 at *
  cases b1 <;> cases bc <;> cases b3 <;> cases s0 <;> cases s2
  all_goals
    go_enter Tryd.func65, Tryd.ntmps65
    go_wp2_with (first | (with_reducible refine H1.out.mono ?_; rintro e w' ⟨rfl, rfl⟩) | (with_reducible refine HC.out.mono ?_; rintro e w' ⟨rfl, rfl⟩) | (with_reducible refine HS0.out.mono ?_; rintro e w' ⟨rfl, rfl⟩) | (with_reducible refine HS2.out.mono ?_; rintro e w' ⟨rfl, rfl⟩))
    all_goals go_ret
    all_goals refine ⟨?_, rfl⟩
    all_goals rw [HV.out]
    all_goals rfl
theorem ChAt.drewN {w : World} {B cb n cap : Nat} {A : Option Addr} {row : List Lt} {S : Nat → Addr} {K : Nat → Nat} {G : Nat → Nat → Addr} {V : Nat → Nat → Nat → Nat} (h : ChAt w B cb A cap row n S K G V) (z : Nat) : ChAt (w.drewN z) B cb A cap row n S K G V :=
  ⟨⟨h.row_.cell, h.row_.rd, h.row_.small⟩, h.len, h.base, h.top, h.mid, h.rows, h.plain, h.lt, h.sep, h.ne⟩
theorem drewN_more (w : World) (a b : Nat) : (w.drewN a).drewN b = w.drewN (a + b) := by
  simp [World.drewN, Nat.add_assoc]
def chF (p q : Nat) (mk : Int) (row : List Lt) (V : Nat → Nat → Nat → Nat) (i j k : Nat) : Nat := if kd row k = mk then V p i k * V q (k + 1) j else 0
theorem chF_le {p q : Nat} {mk : Int} {row : List Lt} {V : Nat → Nat → Nat → Nat} {i j : Nat} (hV : ∀ p i j, V p i j ≤ 1) (k : Nat) : chF p q mk row V i j k ≤ 1 := by
  unfold chF
  split
  · exact Nat.mul_le_mul (hV p i k) (hV q (k + 1) j)
  · exact Nat.zero_le _
theorem sumF_le {f : Nat → Nat} (hf : ∀ k, f k ≤ 1) (a n : Nat) : sumF f a n ≤ n := by
  induction n with
  | zero => exact Nat.le_refl _
  | succ n ih => rw [sumF]; have := hf (a + n); omega
def ChRel (w : World) (f : Nat → Nat) (x i d : Nat) (nv kv : Value) (W : World) : Prop := ∃ c z : Nat, c ≤ d ∧ nv = .int .i64 ((x + sumF f (i + 1) c : Nat) : Int) ∧ kv = .int .i64 ((i + 1 + c : Nat) : Int) ∧ W = w.drewN z
theorem chain_6 {w : World} {B cb n cap : Nat} {A : Option Addr} {row : List Lt} {S : Nat → Addr} {K : Nat → Nat} {G : Nat → Nat → Addr} {V : Nat → Nat → Nat → Nat} (h : ChAt w B cb A cap row n S K G V) (i j : Nat) (hij : i < j) (hj : j ≤ n) (hV : ∀ p i j, V p i j ≤ 1) :
    Calls Tryd.prog 67 #[.pointer (some ⟨cb, 0, none⟩), .int .i64 6, .int .i64 5, .int .i64 17, .int .i64 (i : Int), .int .i64 (j : Int)] w fun e w' => e = .returned (.int .i64 ((V 5 i j + sumF (chF 6 5 17 row V i j) (i + 1) (j - 1 - (i + 1)) : Nat) : Int)) ∧ ∃ z, w' = w.drewN z := by
  have hn : n ≤ 100 := by have := h.row_.small; have := h.len; omega
  obtain ⟨m, hm⟩ : ∃ m, m = j - 1 := ⟨_, rfl⟩
  obtain ⟨d, hd⟩ : ∃ d, d = j - 1 - (i + 1) := ⟨_, rfl⟩
  have hj1 : ((j : Int) - 1) = (m : Int) := by omega
  have tx : w.cell? ⟨cb, 6, none⟩ = some (.slice (some (S 5)) (n + 1) (K 5)) := h.top 5 (by omega)
  have mx := h.mid 5 (i) (by omega) (by omega)
  have bx := (h.bot 5 (i) (j) (by omega) (by omega) (by omega)).1
  rw [← hd]
  have HM := Lib.hid hm; have HD := Lib.hid hd
  have HV := Lib.hid hV; have HH := Lib.hid h
  have hvx := hV 5 i j
  have hi0 : ((i : Int) + 1) = ((i + 1 : Nat) : Int) := by omega
  have HI0 := Lib.hid hi0
  have H0 := Lib.hid (show ChRel w (chF 6 5 17 row V i j) (V 5 i j) i d (.int .i64 ((V 5 i j : Nat) : Int)) (.int .i64 ((i : Int) + 1)) w from ⟨0, 0, Nat.zero_le _, rfl, by rw [hi0], rfl⟩)
  clear hm hd hV h hi0
  generalize hvq : V 5 i j = vx at *
  go_enter Tryd.func67, Tryd.ntmps67
  go_wp2
  go_loopw [13, 14] (fun nv kv wr => ChRel w (chF 6 5 17 row V i j) vx i d nv kv wr) (fun _ kv _ => j - (intOf kv).toNat)
  case atStart => exact H0.out
  case round =>
    clear H0 tx mx bx
    obtain ⟨c, z, hc, rfl, rfl, rfl⟩ := hrel
    have HC := Lib.hid hc
    have h2 := HH.out.drewN z
    generalize hw2 : w.drewN z = w2 at *
    have HW2 := Lib.hid hw2
    obtain ⟨kk, hkk⟩ : ∃ kk, kk = i + 1 + c := ⟨_, rfl⟩
    rw [← hkk]
    have HKK := Lib.hid hkk
    have hsum := sumF_le (chF_le (p := 6) (q := 5) (mk := 17) (row := row) (i := i) (j := j) HV.out) (i + 1) c
    have hcd : c ≤ 100 := by have := HD.out; omega
    have HVQ := Lib.hid hvq
    obtain ⟨su, hsu⟩ : ∃ su, su = sumF (chF 6 5 17 row V i j) (i + 1) c := ⟨_, rfl⟩
    rw [← hsu] at hsum ⊢
    have HSU := Lib.hid hsu
    have HF := Lib.hid (show chF 6 5 17 row V i j kk = if kd row kk = 17 then V 6 i kk * V 5 (kk + 1) j else 0 from rfl)
    have HSS := Lib.hid (show sumF (chF 6 5 17 row V i j) (i + 1) (c + 1) = su + chF 6 5 17 row V i j kk from by rw [hsu, hkk]; rfl)
    have hnx : ((kk : Int) + 1) = ((kk + 1 : Nat) : Int) := by omega
    have HNX := Lib.hid hnx
    have hvs : vx + su ≤ 200 := by omega
    have hkn : kk ≤ 300 := by omega
    clear hkk hsu hw2 hnx hc hvq
    by_cases hlt : kk < m
    · have HIS := Lib.hid (h2.kd_is (kk : Int) 17 kk rfl (by have := HM.out; omega))
      by_cases hk : kd row kk = 17
      · have ek : (kd row kk == 17) = true := by simpa using hk
        have HFE := Lib.hid (show chF 6 5 17 row V i j kk = V 6 i kk * V 5 (kk + 1) j from by rw [HF.out, if_pos hk])
        have hkj : kk + 1 ≤ n := by have := HM.out; omega
        have ta : w2.cell? ⟨cb, 7, none⟩ = some (.slice (some (S 6)) (n + 1) (K 6)) := h2.top 6 (by omega)
        have ma := h2.mid 6 i (by omega) (by omega)
        have ba := (h2.bot 6 i kk (by omega) (by omega) (by omega)).1
        have tb : w2.cell? ⟨cb, 6, none⟩ = some (.slice (some (S 5)) (n + 1) (K 5)) := h2.top 5 (by omega)
        have mb := h2.mid 5 (kk + 1) (by omega) hkj
        rw [Addr.add, if_neg (show ¬ (kk + 1 = 0) from Nat.succ_ne_zero _)] at mb
        have bb := (h2.bot 5 (kk + 1) j (by omega) hkj (by omega)).1
        obtain ⟨ab, hab⟩ : ∃ ab, ab = V 6 i kk * V 5 (kk + 1) j := ⟨_, rfl⟩
        have hab1 : ab ≤ 1 := by rw [hab]; exact Nat.mul_le_mul (HV.out 6 i kk) (HV.out 5 (kk + 1) j)
        have habi : ((V 6 i kk : Nat) : Int) * ((V 5 (kk + 1) j : Nat) : Int) = (ab : Int) := by rw [hab, Int.natCast_mul]
        have HSE := Lib.hid (show ((vx + su : Nat) : Int) + (ab : Int) = ((vx + sumF (chF 6 5 17 row V i j) (i + 1) (c + 1) : Nat) : Int) from by rw [HSS.out, HFE.out, ← hab]; omega)
        have va := HV.out 6 i kk; have vb := HV.out 5 (kk + 1) j
        clear hab hk h2
        generalize V 6 i kk = va0 at *
        generalize V 5 (kk + 1) j = vb0 at *
        go_wp2_with fail
        refine HIS.out.mono ?_
        rintro e w' ⟨rfl, rfl⟩
        go_wp2_with fail
        go_quiet (fail)
        go_wp2
        go_roundw
        case rel => exact ⟨c + 1, z + nq, by have := HC.out; have := HM.out; have := HD.out; have := HKK.out; omega, by rw [← HSE.out]; rfl, by rw [HKK.out]; go_num, by rw [← HW2.out]; exact drewN_more _ _ _⟩
        case measure => simp [intOf]; omega
      · have ek : (kd row kk == 17) = false := by simpa using hk
        have HSE := Lib.hid (show ((vx + su : Nat) : Int) = ((vx + sumF (chF 6 5 17 row V i j) (i + 1) (c + 1) : Nat) : Int) from by rw [HSS.out, HF.out, if_neg hk]; rfl)
        clear hk h2
        go_wp2_with fail
        refine HIS.out.mono ?_
        rintro e w' ⟨rfl, rfl⟩
        go_wp2
        go_roundw
        case rel => exact ⟨c + 1, z, by have := HC.out; have := HM.out; have := HD.out; have := HKK.out; omega, by rw [← HSE.out]; rfl, by rw [HKK.out]; go_num, HW2.out.symm⟩
        case measure => simp [intOf]; omega
    · have hcd2 : c = d := by have := HC.out; have := HM.out; have := HD.out; have := HKK.out; omega
      have HR := Lib.hid (show su = sumF (chF 6 5 17 row V i j) (i + 1) d from by rw [← hcd2]; exact HSU.out)
      clear hcd2 h2
      go_wp2
      go_ret
      exact ⟨by rw [← HR.out]; rfl, z, HW2.out.symm⟩
theorem chain_7 {w : World} {B cb n cap : Nat} {A : Option Addr} {row : List Lt} {S : Nat → Addr} {K : Nat → Nat} {G : Nat → Nat → Addr} {V : Nat → Nat → Nat → Nat} (h : ChAt w B cb A cap row n S K G V) (i j : Nat) (hij : i < j) (hj : j ≤ n) (hV : ∀ p i j, V p i j ≤ 1) :
    Calls Tryd.prog 67 #[.pointer (some ⟨cb, 0, none⟩), .int .i64 7, .int .i64 6, .int .i64 4, .int .i64 (i : Int), .int .i64 (j : Int)] w fun e w' => e = .returned (.int .i64 ((V 6 i j + sumF (chF 7 6 4 row V i j) (i + 1) (j - 1 - (i + 1)) : Nat) : Int)) ∧ ∃ z, w' = w.drewN z := by
  have hn : n ≤ 100 := by have := h.row_.small; have := h.len; omega
  obtain ⟨m, hm⟩ : ∃ m, m = j - 1 := ⟨_, rfl⟩
  obtain ⟨d, hd⟩ : ∃ d, d = j - 1 - (i + 1) := ⟨_, rfl⟩
  have hj1 : ((j : Int) - 1) = (m : Int) := by omega
  have tx : w.cell? ⟨cb, 7, none⟩ = some (.slice (some (S 6)) (n + 1) (K 6)) := h.top 6 (by omega)
  have mx := h.mid 6 (i) (by omega) (by omega)
  have bx := (h.bot 6 (i) (j) (by omega) (by omega) (by omega)).1
  rw [← hd]
  have HM := Lib.hid hm; have HD := Lib.hid hd
  have HV := Lib.hid hV; have HH := Lib.hid h
  have hvx := hV 6 i j
  have hi0 : ((i : Int) + 1) = ((i + 1 : Nat) : Int) := by omega
  have HI0 := Lib.hid hi0
  have H0 := Lib.hid (show ChRel w (chF 7 6 4 row V i j) (V 6 i j) i d (.int .i64 ((V 6 i j : Nat) : Int)) (.int .i64 ((i : Int) + 1)) w from ⟨0, 0, Nat.zero_le _, rfl, by rw [hi0], rfl⟩)
  clear hm hd hV h hi0
  generalize hvq : V 6 i j = vx at *
  go_enter Tryd.func67, Tryd.ntmps67
  go_wp2
  go_loopw [13, 14] (fun nv kv wr => ChRel w (chF 7 6 4 row V i j) vx i d nv kv wr) (fun _ kv _ => j - (intOf kv).toNat)
  case atStart => exact H0.out
  case round =>
    clear H0 tx mx bx
    obtain ⟨c, z, hc, rfl, rfl, rfl⟩ := hrel
    have HC := Lib.hid hc
    have h2 := HH.out.drewN z
    generalize hw2 : w.drewN z = w2 at *
    have HW2 := Lib.hid hw2
    obtain ⟨kk, hkk⟩ : ∃ kk, kk = i + 1 + c := ⟨_, rfl⟩
    rw [← hkk]
    have HKK := Lib.hid hkk
    have hsum := sumF_le (chF_le (p := 7) (q := 6) (mk := 4) (row := row) (i := i) (j := j) HV.out) (i + 1) c
    have hcd : c ≤ 100 := by have := HD.out; omega
    have HVQ := Lib.hid hvq
    obtain ⟨su, hsu⟩ : ∃ su, su = sumF (chF 7 6 4 row V i j) (i + 1) c := ⟨_, rfl⟩
    rw [← hsu] at hsum ⊢
    have HSU := Lib.hid hsu
    have HF := Lib.hid (show chF 7 6 4 row V i j kk = if kd row kk = 4 then V 7 i kk * V 6 (kk + 1) j else 0 from rfl)
    have HSS := Lib.hid (show sumF (chF 7 6 4 row V i j) (i + 1) (c + 1) = su + chF 7 6 4 row V i j kk from by rw [hsu, hkk]; rfl)
    have hnx : ((kk : Int) + 1) = ((kk + 1 : Nat) : Int) := by omega
    have HNX := Lib.hid hnx
    have hvs : vx + su ≤ 200 := by omega
    have hkn : kk ≤ 300 := by omega
    clear hkk hsu hw2 hnx hc hvq
    by_cases hlt : kk < m
    · have HIS := Lib.hid (h2.kd_is (kk : Int) 4 kk rfl (by have := HM.out; omega))
      by_cases hk : kd row kk = 4
      · have ek : (kd row kk == 4) = true := by simpa using hk
        have HFE := Lib.hid (show chF 7 6 4 row V i j kk = V 7 i kk * V 6 (kk + 1) j from by rw [HF.out, if_pos hk])
        have hkj : kk + 1 ≤ n := by have := HM.out; omega
        have ta : w2.cell? ⟨cb, 8, none⟩ = some (.slice (some (S 7)) (n + 1) (K 7)) := h2.top 7 (by omega)
        have ma := h2.mid 7 i (by omega) (by omega)
        have ba := (h2.bot 7 i kk (by omega) (by omega) (by omega)).1
        have tb : w2.cell? ⟨cb, 7, none⟩ = some (.slice (some (S 6)) (n + 1) (K 6)) := h2.top 6 (by omega)
        have mb := h2.mid 6 (kk + 1) (by omega) hkj
        rw [Addr.add, if_neg (show ¬ (kk + 1 = 0) from Nat.succ_ne_zero _)] at mb
        have bb := (h2.bot 6 (kk + 1) j (by omega) hkj (by omega)).1
        obtain ⟨ab, hab⟩ : ∃ ab, ab = V 7 i kk * V 6 (kk + 1) j := ⟨_, rfl⟩
        have hab1 : ab ≤ 1 := by rw [hab]; exact Nat.mul_le_mul (HV.out 7 i kk) (HV.out 6 (kk + 1) j)
        have habi : ((V 7 i kk : Nat) : Int) * ((V 6 (kk + 1) j : Nat) : Int) = (ab : Int) := by rw [hab, Int.natCast_mul]
        have HSE := Lib.hid (show ((vx + su : Nat) : Int) + (ab : Int) = ((vx + sumF (chF 7 6 4 row V i j) (i + 1) (c + 1) : Nat) : Int) from by rw [HSS.out, HFE.out, ← hab]; omega)
        have va := HV.out 7 i kk; have vb := HV.out 6 (kk + 1) j
        clear hab hk h2
        generalize V 7 i kk = va0 at *
        generalize V 6 (kk + 1) j = vb0 at *
        go_wp2_with fail
        refine HIS.out.mono ?_
        rintro e w' ⟨rfl, rfl⟩
        go_wp2_with fail
        go_quiet (fail)
        go_wp2
        go_roundw
        case rel => exact ⟨c + 1, z + nq, by have := HC.out; have := HM.out; have := HD.out; have := HKK.out; omega, by rw [← HSE.out]; rfl, by rw [HKK.out]; go_num, by rw [← HW2.out]; exact drewN_more _ _ _⟩
        case measure => simp [intOf]; omega
      · have ek : (kd row kk == 4) = false := by simpa using hk
        have HSE := Lib.hid (show ((vx + su : Nat) : Int) = ((vx + sumF (chF 7 6 4 row V i j) (i + 1) (c + 1) : Nat) : Int) from by rw [HSS.out, HF.out, if_neg hk]; rfl)
        clear hk h2
        go_wp2_with fail
        refine HIS.out.mono ?_
        rintro e w' ⟨rfl, rfl⟩
        go_wp2
        go_roundw
        case rel => exact ⟨c + 1, z, by have := HC.out; have := HM.out; have := HD.out; have := HKK.out; omega, by rw [← HSE.out]; rfl, by rw [HKK.out]; go_num, HW2.out.symm⟩
        case measure => simp [intOf]; omega
    · have hcd2 : c = d := by have := HC.out; have := HM.out; have := HD.out; have := HKK.out; omega
      have HR := Lib.hid (show su = sumF (chF 7 6 4 row V i j) (i + 1) d from by rw [← hcd2]; exact HSU.out)
      clear hcd2 h2
      go_wp2
      go_ret
      exact ⟨by rw [← HR.out]; rfl, z, HW2.out.symm⟩
theorem chain_8 {w : World} {B cb n cap : Nat} {A : Option Addr} {row : List Lt} {S : Nat → Addr} {K : Nat → Nat} {G : Nat → Nat → Addr} {V : Nat → Nat → Nat → Nat} (h : ChAt w B cb A cap row n S K G V) (i j : Nat) (hij : i < j) (hj : j ≤ n) (hV : ∀ p i j, V p i j ≤ 1) :
    Calls Tryd.prog 67 #[.pointer (some ⟨cb, 0, none⟩), .int .i64 8, .int .i64 7, .int .i64 5, .int .i64 (i : Int), .int .i64 (j : Int)] w fun e w' => e = .returned (.int .i64 ((V 7 i j + sumF (chF 8 7 5 row V i j) (i + 1) (j - 1 - (i + 1)) : Nat) : Int)) ∧ ∃ z, w' = w.drewN z := by
  have hn : n ≤ 100 := by have := h.row_.small; have := h.len; omega
  obtain ⟨m, hm⟩ : ∃ m, m = j - 1 := ⟨_, rfl⟩
  obtain ⟨d, hd⟩ : ∃ d, d = j - 1 - (i + 1) := ⟨_, rfl⟩
  have hj1 : ((j : Int) - 1) = (m : Int) := by omega
  have tx : w.cell? ⟨cb, 8, none⟩ = some (.slice (some (S 7)) (n + 1) (K 7)) := h.top 7 (by omega)
  have mx := h.mid 7 (i) (by omega) (by omega)
  have bx := (h.bot 7 (i) (j) (by omega) (by omega) (by omega)).1
  rw [← hd]
  have HM := Lib.hid hm; have HD := Lib.hid hd
  have HV := Lib.hid hV; have HH := Lib.hid h
  have hvx := hV 7 i j
  have hi0 : ((i : Int) + 1) = ((i + 1 : Nat) : Int) := by omega
  have HI0 := Lib.hid hi0
  have H0 := Lib.hid (show ChRel w (chF 8 7 5 row V i j) (V 7 i j) i d (.int .i64 ((V 7 i j : Nat) : Int)) (.int .i64 ((i : Int) + 1)) w from ⟨0, 0, Nat.zero_le _, rfl, by rw [hi0], rfl⟩)
  clear hm hd hV h hi0
  generalize hvq : V 7 i j = vx at *
  go_enter Tryd.func67, Tryd.ntmps67
  go_wp2
  go_loopw [13, 14] (fun nv kv wr => ChRel w (chF 8 7 5 row V i j) vx i d nv kv wr) (fun _ kv _ => j - (intOf kv).toNat)
  case atStart => exact H0.out
  case round =>
    clear H0 tx mx bx
    obtain ⟨c, z, hc, rfl, rfl, rfl⟩ := hrel
    have HC := Lib.hid hc
    have h2 := HH.out.drewN z
    generalize hw2 : w.drewN z = w2 at *
    have HW2 := Lib.hid hw2
    obtain ⟨kk, hkk⟩ : ∃ kk, kk = i + 1 + c := ⟨_, rfl⟩
    rw [← hkk]
    have HKK := Lib.hid hkk
    have hsum := sumF_le (chF_le (p := 8) (q := 7) (mk := 5) (row := row) (i := i) (j := j) HV.out) (i + 1) c
    have hcd : c ≤ 100 := by have := HD.out; omega
    have HVQ := Lib.hid hvq
    obtain ⟨su, hsu⟩ : ∃ su, su = sumF (chF 8 7 5 row V i j) (i + 1) c := ⟨_, rfl⟩
    rw [← hsu] at hsum ⊢
    have HSU := Lib.hid hsu
    have HF := Lib.hid (show chF 8 7 5 row V i j kk = if kd row kk = 5 then V 8 i kk * V 7 (kk + 1) j else 0 from rfl)
    have HSS := Lib.hid (show sumF (chF 8 7 5 row V i j) (i + 1) (c + 1) = su + chF 8 7 5 row V i j kk from by rw [hsu, hkk]; rfl)
    have hnx : ((kk : Int) + 1) = ((kk + 1 : Nat) : Int) := by omega
    have HNX := Lib.hid hnx
    have hvs : vx + su ≤ 200 := by omega
    have hkn : kk ≤ 300 := by omega
    clear hkk hsu hw2 hnx hc hvq
    by_cases hlt : kk < m
    · have HIS := Lib.hid (h2.kd_is (kk : Int) 5 kk rfl (by have := HM.out; omega))
      by_cases hk : kd row kk = 5
      · have ek : (kd row kk == 5) = true := by simpa using hk
        have HFE := Lib.hid (show chF 8 7 5 row V i j kk = V 8 i kk * V 7 (kk + 1) j from by rw [HF.out, if_pos hk])
        have hkj : kk + 1 ≤ n := by have := HM.out; omega
        have ta : w2.cell? ⟨cb, 9, none⟩ = some (.slice (some (S 8)) (n + 1) (K 8)) := h2.top 8 (by omega)
        have ma := h2.mid 8 i (by omega) (by omega)
        have ba := (h2.bot 8 i kk (by omega) (by omega) (by omega)).1
        have tb : w2.cell? ⟨cb, 8, none⟩ = some (.slice (some (S 7)) (n + 1) (K 7)) := h2.top 7 (by omega)
        have mb := h2.mid 7 (kk + 1) (by omega) hkj
        rw [Addr.add, if_neg (show ¬ (kk + 1 = 0) from Nat.succ_ne_zero _)] at mb
        have bb := (h2.bot 7 (kk + 1) j (by omega) hkj (by omega)).1
        obtain ⟨ab, hab⟩ : ∃ ab, ab = V 8 i kk * V 7 (kk + 1) j := ⟨_, rfl⟩
        have hab1 : ab ≤ 1 := by rw [hab]; exact Nat.mul_le_mul (HV.out 8 i kk) (HV.out 7 (kk + 1) j)
        have habi : ((V 8 i kk : Nat) : Int) * ((V 7 (kk + 1) j : Nat) : Int) = (ab : Int) := by rw [hab, Int.natCast_mul]
        have HSE := Lib.hid (show ((vx + su : Nat) : Int) + (ab : Int) = ((vx + sumF (chF 8 7 5 row V i j) (i + 1) (c + 1) : Nat) : Int) from by rw [HSS.out, HFE.out, ← hab]; omega)
        have va := HV.out 8 i kk; have vb := HV.out 7 (kk + 1) j
        clear hab hk h2
        generalize V 8 i kk = va0 at *
        generalize V 7 (kk + 1) j = vb0 at *
        go_wp2_with fail
        refine HIS.out.mono ?_
        rintro e w' ⟨rfl, rfl⟩
        go_wp2_with fail
        go_quiet (fail)
        go_wp2
        go_roundw
        case rel => exact ⟨c + 1, z + nq, by have := HC.out; have := HM.out; have := HD.out; have := HKK.out; omega, by rw [← HSE.out]; rfl, by rw [HKK.out]; go_num, by rw [← HW2.out]; exact drewN_more _ _ _⟩
        case measure => simp [intOf]; omega
      · have ek : (kd row kk == 5) = false := by simpa using hk
        have HSE := Lib.hid (show ((vx + su : Nat) : Int) = ((vx + sumF (chF 8 7 5 row V i j) (i + 1) (c + 1) : Nat) : Int) from by rw [HSS.out, HF.out, if_neg hk]; rfl)
        clear hk h2
        go_wp2_with fail
        refine HIS.out.mono ?_
        rintro e w' ⟨rfl, rfl⟩
        go_wp2
        go_roundw
        case rel => exact ⟨c + 1, z, by have := HC.out; have := HM.out; have := HD.out; have := HKK.out; omega, by rw [← HSE.out]; rfl, by rw [HKK.out]; go_num, HW2.out.symm⟩
        case measure => simp [intOf]; omega
    · have hcd2 : c = d := by have := HC.out; have := HM.out; have := HD.out; have := HKK.out; omega
      have HR := Lib.hid (show su = sumF (chF 8 7 5 row V i j) (i + 1) d from by rw [← hcd2]; exact HSU.out)
      clear hcd2 h2
      go_wp2
      go_ret
      exact ⟨by rw [← HR.out]; rfl, z, HW2.out.symm⟩
end Go.Proofs.YtcomdkejpaoneaaDoor
end
section
namespace Go.Proofs.YtcomdkejpaoneaaDoor
open Go.RowKit
set_option maxRecDepth 100000
set_option maxHeartbeats 1000000
set_option linter.unusedSimpArgs false
set_option linter.unusedVariables false
def pc (ts : List Lt) (i j : Nat) : List Lt := (ts.drop i).take (j - i)
def Pcs (w : World) (B : Nat) (ts : List Lt) (sls : List Sl) (rs : List (Nat × Nat)) : Prop :=
  sls.length = rs.length ∧ ∀ (i : Nat) (s : Sl) (r : Nat × Nat), sls[i]? = some s → rs[i]? = some r → s.n = r.2 - r.1 ∧ RdL ltS w B (.slice s.a s.n s.c) (pc ts r.1 r.2)
theorem Pcs.nil (w : World) (B : Nat) (ts : List Lt) : Pcs w B ts [] [] := ⟨rfl, fun i s r h => by simp at h⟩
theorem Pcs.snoc {w : World} {B : Nat} {ts : List Lt} {sls : List Sl} {rs : List (Nat × Nat)} {s : Sl} {r : Nat × Nat} (h : Pcs w B ts sls rs) (hn : s.n = r.2 - r.1) (hr : RdL ltS w B (.slice s.a s.n s.c) (pc ts r.1 r.2)) : Pcs w B ts (sls ++ [s]) (rs ++ [r]) := by
  refine ⟨by rw [List.length_append, List.length_append, h.1]; rfl, fun i x y hx hy => ?_⟩
  by_cases hi : i < sls.length
  · rw [List.getElem?_append_left hi] at hx
    rw [List.getElem?_append_left (by rw [← h.1]; exact hi)] at hy
    exact h.2 i x y hx hy
  · rw [List.getElem?_append_right (by omega)] at hx
    rw [List.getElem?_append_right (by rw [← h.1]; omega), ← h.1] at hy
    obtain ⟨k, hk⟩ : ∃ k, k = i - sls.length := ⟨_, rfl⟩
    rw [← hk] at hx hy
    cases k with
    | zero => simp only [List.getElem?_cons_zero, Option.some.injEq] at hx hy; subst hx hy; exact ⟨hn, hr⟩
    | succ k => simp at hx
theorem Pcs.belowW {w w' : World} {B : Nat} {ts : List Lt} {sls : List Sl} {rs : List (Nat × Nat)} (h : Pcs w B ts sls rs) (hB : B ≤ w.heap.size) (hb : Below w.heap.size w w') : Pcs w' B ts sls rs :=
  ⟨h.1, fun i s r hs hr => ⟨(h.2 i s r hs hr).1, (h.2 i s r hs hr).2.belowW hB hb⟩⟩
end Go.Proofs.YtcomdkejpaoneaaDoor
end
