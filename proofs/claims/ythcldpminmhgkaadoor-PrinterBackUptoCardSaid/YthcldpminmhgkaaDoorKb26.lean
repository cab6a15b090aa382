/- Merged for a claim by shake.py: Jb Jd Je -/
import Derived.Test.YthcldpminmhgkaaDoorKbA
import Derived.Test.YthcldpminmhgkaaDoorKb25
set_option maxRecDepth 100000
set_option maxHeartbeats 4000000
set_option linter.unusedSimpArgs false
set_option linter.unusedVariables false
section
namespace Go.Proofs.YthcldpminmhgkaaDoor
open Go.RowKit
theorem byte_lit {c : UInt8} {k : Nat} (hk : k < 256) : (((c.toNat : Int) == (k : Int)) = decide (c = UInt8.ofNat k)) ∧ (((c.toNat : Int) != (k : Int)) = !decide (c = UInt8.ofNat k)) := by
 have h : ((c.toNat : Int) == (k : Int)) = decide (c = UInt8.ofNat k) := by
  rw [Bool.eq_iff_iff, beq_iff_eq, decide_eq_true_eq]
  constructor
  ·intro h
   have : c.toNat = k := by omega
   rw [← this, UInt8.ofNat_toNat]
  ·intro h
   rw [h, UInt8.toNat_ofNat']; omega
 exact ⟨h, by rw [bne, h]⟩
theorem drop_at {s : ByteArray} {i : Nat} (h : i < s.size) : s.data.toList.drop i = s[i] :: s.data.toList.drop (i + 1) := List.drop_eq_getElem_cons (by rw [← ba_size]; exact h)
theorem drop_end {s : ByteArray} {i : Nat} (h : ¬ i < s.size) : s.data.toList.drop i = [] := List.drop_eq_nil_of_le (by rw [← ba_size]; omega)
def WdRel (s : ByteArray) (mv lv iv : Value) : Prop := ∃ (i m : Nat) (last : Int), i ≤ s.size ∧ iv = .int .i64 (i : Int) ∧ mv = .int .i64 (m : Int) ∧ lv = .int .i64 last ∧ wildP (s.data.toList.drop i) i m last = wildP s.data.toList 0 0 (-1) ∧ m ≤ 2 * i ∧ -1 ≤ last ∧ last ≤ (i : Int)
theorem wildB_none {l : List UInt8} (h : wildP l 0 0 (-1) = none) : wildB l = false := by unfold wildB; rw [h]
theorem wildB_some {l : List UInt8} {m : Nat} {last : Int} (h : wildP l 0 0 (-1) = some (m, last)) : wildB l = (decide (1 < m) || (decide (m = 1) && decide (last ≠ (l.length : Int) - 1))) := by unfold wildB; rw [h]
theorem pwild_any (s : ByteArray) (w : World) (hs : s.size ≤ 10000000) :
  Calls Tryd.prog 53 #[.string s] w fun e w' => e = .returned (.bool (wildB s.data.toList)) ∧ w = w' := by
 go_enter Tryd.func53, Tryd.ntmps53
 go_wp2
 go_loop [3, 4, 5] (fun mv lv iv => WdRel s mv lv iv) (fun _ _ iv => s.size - (intOf iv).toNat)
 case atStart => exact ⟨0, 0, -1, Nat.zero_le _, rfl, rfl, rfl, rfl, by omega, by omega, by omega⟩
 case round =>
  obtain ⟨i, m, last, hi, rfl, rfl, rfl, hW, hm, hl1, hl2⟩ := hrel
  have HW := LH hW; clear hW
  have hm0 : (0 : Int) ≤ (m : Int) := by omega
  have hm1 : (m : Int) ≤ 20000000 := by omega
  by_cases hlt : i < s.size
  ·have HD := LH (drop_at hlt)
   obtain ⟨c, hc⟩ : ∃ c, c = s[i] := ⟨_, rfl⟩
   rw [← hc] at HD
   have HC := LH hc
   by_cases h42 : c = 42
   ·have e1 : ((s[i].toNat : Int) == 42) = true := by rw [← hc, h42]; rfl
    have HX := LH (show wildP (s.data.toList.drop (i + 1)) (i + 1) (m + 1) i = wildP s.data.toList 0 0 (-1) from by
     rw [← HW.out, HD.out]; conv => rhs; rw [wildP.eq_def]
     simp only [if_pos h42])
    clear hc h42
    go_wp2
    go_round
    case rel => exact ⟨i + 1, m + 1, i, hlt, by go_num, by go_num, rfl, HX.out, by omega, by omega, by omega⟩
    case measure => simp [intOf]; omega
   by_cases h63 : c = 63
   ·have e1 : ((s[i].toNat : Int) == 42) = false := by rw [← hc, h63]; rfl
    have e2 : ((s[i].toNat : Int) == 63) = true := by rw [← hc, h63]; rfl
    have HX := LH (show wildP (s.data.toList.drop (i + 1)) (i + 1) (m + 2) last = wildP s.data.toList 0 0 (-1) from by
     rw [← HW.out, HD.out]; conv => rhs; rw [wildP.eq_def]
     simp only [if_neg h42, if_pos h63])
    clear hc h42 h63
    go_wp2
    go_round
    case rel => exact ⟨i + 1, m + 2, last, hlt, by go_num, by go_num, rfl, HX.out, by omega, by omega, by omega⟩
    case measure => simp [intOf]; omega
   have e1 : ((s[i].toNat : Int) == 42) = false := by rw [← hc]; exact ((byte_lit (c := c) (k := 42) (by decide)).1).trans (decide_eq_false h42)
   have e2 : ((s[i].toNat : Int) == 63) = false := by rw [← hc]; exact ((byte_lit (c := c) (k := 63) (by decide)).1).trans (decide_eq_false h63)
   by_cases h92 : c = 92
   ·have e3 : ((s[i].toNat : Int) == 92) = true := by rw [← hc, h92]; rfl
    by_cases hlt2 : i + 1 < s.size
    ·have HD2 := LH (drop_at hlt2)
     obtain ⟨d, hd⟩ : ∃ d, d = s[i + 1] := ⟨_, rfl⟩
     rw [← hd] at HD2
     have b1 : ((s[i + 1].toNat : Int) != 42) = !decide (d = 42) := by rw [← hd]; exact (byte_lit (c := d) (k := 42) (by decide)).2
     have b2 : ((s[i + 1].toNat : Int) != 63) = !decide (d = 63) := by rw [← hd]; exact (byte_lit (c := d) (k := 63) (by decide)).2
     have b3 : ((s[i + 1].toNat : Int) != 92) = !decide (d = 92) := by rw [← hd]; exact (byte_lit (c := d) (k := 92) (by decide)).2
     have hne : ((i : Int) + 1 == (s.size : Int)) = false := by rw [beq_eq_false_iff_ne]; omega
     have HWX := LH (show (if d = 42 ∨ d = 63 ∨ d = 92 then wildP (s.data.toList.drop (i + 2)) (i + 2) m last else none) = wildP s.data.toList 0 0 (-1) from by
      rw [← HW.out, HD.out, HD2.out]; conv => rhs; rw [wildP.eq_def]
      simp only [if_neg h42, if_neg h63, if_pos h92])
     by_cases hg : d = 42 ∨ d = 63 ∨ d = 92
     ·have HX := LH (show wildP (s.data.toList.drop (i + 2)) (i + 2) m last = wildP s.data.toList 0 0 (-1) from by
       have := HWX.out; rw [if_pos hg] at this; exact this)
      rcases hg with rfl | rfl | rfl
      all_goals
       clear hc hd h42 h63 h92
       simp only [decide_true, Bool.not_true, Bool.not_false] at b1 b2 b3
       first | (rw [show decide ((63 : UInt8) = 42) = false from rfl] at b1) | (rw [show decide ((92 : UInt8) = 42) = false from rfl] at b1; rw [show decide ((92 : UInt8) = 63) = false from rfl] at b2) | skip
       go_wp2
       go_round
       case rel => exact ⟨i + 2, m, last, by omega, by go_num, rfl, rfl, HX.out, by omega, by omega, by omega⟩
       case measure => simp [intOf]; omega
     ·have HN := LH (wildB_none (show wildP s.data.toList 0 0 (-1) = none from by have := HWX.out; rw [if_neg hg] at this; exact this.symm))
      rw [decide_eq_false (fun e => hg (.inl e))] at b1
      rw [decide_eq_false (fun e => hg (.inr (.inl e)))] at b2
      rw [decide_eq_false (fun e => hg (.inr (.inr e)))] at b3
      simp only [Bool.not_false] at b1 b2 b3
      clear hc hd h42 h63 h92 hg
      go_wp2
      go_ret
      exact ⟨ret_bool HN.out.symm, rfl⟩
    ·have hne : ((i : Int) + 1 == (s.size : Int)) = true := by rw [beq_iff_eq]; omega
     have HN := LH (wildB_none (show wildP s.data.toList 0 0 (-1) = none from by
      rw [← HW.out, HD.out, drop_end (by omega : ¬ i + 1 < s.size), wildP.eq_def]; simp only [if_neg h42, if_neg h63, if_pos h92]))
     clear hc h42 h63 h92
     go_wp2
     go_ret
     exact ⟨ret_bool HN.out.symm, rfl⟩
   ·have e3 : ((s[i].toNat : Int) == 92) = false := by rw [← hc]; exact ((byte_lit (c := c) (k := 92) (by decide)).1).trans (decide_eq_false h92)
    have HX := LH (show wildP (s.data.toList.drop (i + 1)) (i + 1) m last = wildP s.data.toList 0 0 (-1) from by
     rw [← HW.out, HD.out]; conv => rhs; rw [wildP.eq_def]
     simp only [if_neg h42, if_neg h63, if_neg h92])
    clear hc h42 h63 h92
    go_wp2
    go_round
    case rel => exact ⟨i + 1, m, last, hlt, by go_num, rfl, rfl, HX.out, by omega, by omega, by omega⟩
    case measure => simp [intOf]; omega
  ·have HB := LH (wildB_some (show wildP s.data.toList 0 0 (-1) = some (m, last) from by rw [← HW.out, drop_end hlt, wildP]))
   have hsz : s.data.toList.length = s.size := by rw [Array.length_toList]; rfl
   rw [hsz] at HB
   have HM := LH (⟨hm0, hm1⟩ : (0 : Int) ≤ (m : Int) ∧ (m : Int) ≤ 20000000)
   by_cases g1 : 1 < m
   ·have g2 : (1 : Int) < (m : Int) := by omega
    have HR := LH (show wildB s.data.toList = true from by rw [HB.out, decide_eq_true g1]; rfl)
    go_wp2
    go_ret
    exact ⟨ret_bool HR.out.symm, rfl⟩
   ·have g2 : ¬ (1 : Int) < (m : Int) := by omega
    by_cases g3 : m = 1
    ·have HR := LH (show wildB s.data.toList = decide (last ≠ (s.size : Int) - 1) from by rw [HB.out, decide_eq_false g1, decide_eq_true g3]; rfl)
     have g4 : ((m : Int) == 1) = true := by rw [g3]; rfl
     clear g3
     go_wp2
     go_ret
     exact ⟨ret_bool (by rw [HR.out, Bool.eq_iff_iff]; simp), rfl⟩
    ·have HR := LH (show wildB s.data.toList = false from by rw [HB.out, decide_eq_false g1, decide_eq_false g3]; rfl)
     have g4 : ((m : Int) == 1) = false := by rw [beq_eq_false_iff_ne]; omega
     clear g3
     go_wp2
     go_ret
     exact ⟨ret_bool HR.out.symm, rfl⟩
def WrRel (s : ByteArray) (mv gv lv iv : Value) : Prop := ∃ (i m g : Nat) (z : UInt8), i ≤ s.size ∧ iv = .int .i64 (i : Int) ∧ mv = .int .i64 (m : Int) ∧ gv = .int .i64 (g : Int) ∧ lv = .int .u8 (z.toNat : Int) ∧ wildR (s.data.toList.drop i) m g z = wildR s.data.toList 0 0 0 ∧ m + g ≤ i
theorem wildR_none {l : List UInt8} (h : wildR l 0 0 0 = none) : wildRB l = false := by unfold wildRB; rw [h]
theorem wildR_some {l : List UInt8} {m g : Nat} {z : UInt8} (h : wildR l 0 0 0 = some (m, g, z)) : wildRB l = (decide (0 < g) || decide (1 < m) || (decide (m = 1) && decide (z ≠ 42))) := by unfold wildRB; rw [h]
theorem rwild_any (s : ByteArray) (w : World) (hs : s.size ≤ 10000000) :
  Calls Tryd.prog 73 #[.string s] w fun e w' => e = .returned (.bool (wildRB s.data.toList)) ∧ w = w' := by
 go_enter Tryd.func73, Tryd.ntmps73
 go_wp2
 go_loop [3, 4, 5, 6] (fun mv gv lv iv => WrRel s mv gv lv iv) (fun _ _ _ iv => s.size - (intOf iv).toNat)
 case atStart => exact ⟨0, 0, 0, 0, Nat.zero_le _, rfl, rfl, rfl, rfl, rfl, Nat.le_refl _⟩
 case round =>
  obtain ⟨i, m, g, z, hi, rfl, rfl, rfl, rfl, hW, hm⟩ := hrel
  have HW := LH hW; clear hW
  have hm0 : (0 : Int) ≤ (m : Int) := by omega
  have hm1 : (m : Int) ≤ 20000000 := by omega
  have hg0 : (0 : Int) ≤ (g : Int) := by omega
  have hg1 : (g : Int) ≤ 20000000 := by omega
  have hz0 : (0 : Int) ≤ (z.toNat : Int) := by omega
  have hz1 : (z.toNat : Int) < 256 := u8_lt z
  by_cases hlt : i < s.size
  ·have HD := LH (drop_at hlt)
   obtain ⟨c, hc⟩ : ∃ c, c = s[i] := ⟨_, rfl⟩
   rw [← hc] at HD
   have HC := LH hc
   by_cases h42 : c = 42
   ·have e1 : ((s[i].toNat : Int) == 42) = true := by rw [← hc, h42]; rfl
    have HX := LH (show wildR (s.data.toList.drop (i + 1)) (m + 1) g 42 = wildR s.data.toList 0 0 0 from by
     rw [← HW.out, HD.out]; conv => rhs; rw [wildR.eq_def]
     simp only [if_pos h42])
    have H42 := LH h42
    clear hc h42
    go_wp2
    go_round
    case rel => exact ⟨i + 1, m + 1, g, 42, hlt, by go_num, by go_num, rfl, by rw [← HC.out, H42.out], HX.out, by omega⟩
    case measure => simp [intOf]; omega
   by_cases h63 : c = 63
   ·have e1 : ((s[i].toNat : Int) == 42) = false := by rw [← hc, h63]; rfl
    have e2 : ((s[i].toNat : Int) == 63) = true := by rw [← hc, h63]; rfl
    have HX := LH (show wildR (s.data.toList.drop (i + 1)) m (g + 1) 63 = wildR s.data.toList 0 0 0 from by
     rw [← HW.out, HD.out]; conv => rhs; rw [wildR.eq_def]
     simp only [if_neg h42, if_pos h63])
    have H63 := LH h63
    clear hc h42 h63
    go_wp2
    go_round
    case rel => exact ⟨i + 1, m, g + 1, 63, hlt, by go_num, rfl, by go_num, by rw [← HC.out, H63.out], HX.out, by omega⟩
    case measure => simp [intOf]; omega
   have e1 : ((s[i].toNat : Int) == 42) = false := by rw [← hc]; exact ((byte_lit (c := c) (k := 42) (by decide)).1).trans (decide_eq_false h42)
   have e2 : ((s[i].toNat : Int) == 63) = false := by rw [← hc]; exact ((byte_lit (c := c) (k := 63) (by decide)).1).trans (decide_eq_false h63)
   by_cases h92 : c = 92
   ·have e3 : ((s[i].toNat : Int) == 92) = true := by rw [← hc, h92]; rfl
    by_cases hlt2 : i + 1 < s.size
    ·have HD2 := LH (drop_at hlt2)
     obtain ⟨d, hd⟩ : ∃ d, d = s[i + 1] := ⟨_, rfl⟩
     rw [← hd] at HD2
     have b1 : ((s[i + 1].toNat : Int) != 42) = !decide (d = 42) := by rw [← hd]; exact (byte_lit (c := d) (k := 42) (by decide)).2
     have b2 : ((s[i + 1].toNat : Int) != 63) = !decide (d = 63) := by rw [← hd]; exact (byte_lit (c := d) (k := 63) (by decide)).2
     have b3 : ((s[i + 1].toNat : Int) != 92) = !decide (d = 92) := by rw [← hd]; exact (byte_lit (c := d) (k := 92) (by decide)).2
     have hne : (i : Int) + 1 < (s.size : Int) := by omega
     have HWX := LH (show (if d = 42 ∨ d = 63 ∨ d = 92 then wildR (s.data.toList.drop (i + 2)) m g 0 else none) = wildR s.data.toList 0 0 0 from by
      rw [← HW.out, HD.out, HD2.out]; conv => rhs; rw [wildR.eq_def]
      simp only [if_neg h42, if_neg h63, if_pos h92])
     by_cases hg : d = 42 ∨ d = 63 ∨ d = 92
     ·have HX := LH (show wildR (s.data.toList.drop (i + 2)) m g 0 = wildR s.data.toList 0 0 0 from by
       have := HWX.out; rw [if_pos hg] at this; exact this)
      rcases hg with rfl | rfl | rfl
      all_goals
       clear hc hd h42 h63 h92
       simp only [decide_true, Bool.not_true, Bool.not_false] at b1 b2 b3
       first | (rw [show decide ((63 : UInt8) = 42) = false from rfl] at b1) | (rw [show decide ((92 : UInt8) = 42) = false from rfl] at b1; rw [show decide ((92 : UInt8) = 63) = false from rfl] at b2) | skip
       go_wp2
       go_round
       case rel => exact ⟨i + 2, m, g, 0, by omega, by go_num, rfl, rfl, rfl, HX.out, by omega⟩
       case measure => simp [intOf]; omega
     ·have HN := LH (wildR_none (show wildR s.data.toList 0 0 0 = none from by have := HWX.out; rw [if_neg hg] at this; exact this.symm))
      rw [decide_eq_false (fun e => hg (.inl e))] at b1
      rw [decide_eq_false (fun e => hg (.inr (.inl e)))] at b2
      rw [decide_eq_false (fun e => hg (.inr (.inr e)))] at b3
      simp only [Bool.not_false] at b1 b2 b3
      clear hc hd h42 h63 h92 hg
      go_wp2
      go_ret
      exact ⟨ret_bool HN.out.symm, rfl⟩
    ·have hne : ¬ (i : Int) + 1 < (s.size : Int) := by omega
     have HN := LH (wildR_none (show wildR s.data.toList 0 0 0 = none from by
      rw [← HW.out, HD.out, drop_end (by omega : ¬ i + 1 < s.size), wildR.eq_def]; simp only [if_neg h42, if_neg h63, if_pos h92]))
     clear hc h42 h63 h92
     go_wp2
     go_ret
     exact ⟨ret_bool HN.out.symm, rfl⟩
   ·have e3 : ((s[i].toNat : Int) == 92) = false := by rw [← hc]; exact ((byte_lit (c := c) (k := 92) (by decide)).1).trans (decide_eq_false h92)
    have HX := LH (show wildR (s.data.toList.drop (i + 1)) m g c = wildR s.data.toList 0 0 0 from by
     rw [← HW.out, HD.out]; conv => rhs; rw [wildR.eq_def]
     simp only [if_neg h42, if_neg h63, if_neg h92])
    clear hc h42 h63 h92
    go_wp2
    go_round
    case rel => exact ⟨i + 1, m, g, c, hlt, by go_num, rfl, rfl, by rw [HC.out], HX.out, by omega⟩
    case measure => simp [intOf]; omega
  ·have HB := LH (wildR_some (show wildR s.data.toList 0 0 0 = some (m, g, z) from by rw [← HW.out, drop_end hlt, wildR]))
   have HM := LH (⟨hm0, hm1⟩ : (0 : Int) ≤ (m : Int) ∧ (m : Int) ≤ 20000000)
   by_cases g0 : 0 < g
   ·have g9 : (0 : Int) < (g : Int) := by omega
    have HR := LH (show wildRB s.data.toList = true from by rw [HB.out, decide_eq_true g0]; rfl)
    go_wp2
    go_ret
    exact ⟨ret_bool HR.out.symm, rfl⟩
   have g9 : ¬ (0 : Int) < (g : Int) := by omega
   by_cases g1 : 1 < m
   ·have g2 : (1 : Int) < (m : Int) := by omega
    have HR := LH (show wildRB s.data.toList = true from by rw [HB.out, decide_eq_true g1, decide_eq_false g0]; rfl)
    go_wp2
    go_ret
    exact ⟨ret_bool HR.out.symm, rfl⟩
   ·have g2 : ¬ (1 : Int) < (m : Int) := by omega
    by_cases g3 : m = 1
    ·have HR := LH (show wildRB s.data.toList = decide (z ≠ 42) from by rw [HB.out, decide_eq_false g1, decide_eq_true g3, decide_eq_false g0]; rfl)
     have g4 : ((m : Int) == 1) = true := by rw [g3]; rfl
     have g5 : ((z.toNat : Int) != 42) = !decide (z = 42) := (byte_lit (c := z) (k := 42) (by decide)).2
     clear g3
     go_wp2
     go_ret
     exact ⟨ret_bool (by rw [HR.out]; simp), rfl⟩
    ·have HR := LH (show wildRB s.data.toList = false from by rw [HB.out, decide_eq_false g1, decide_eq_false g3, decide_eq_false g0]; rfl)
     have g4 : ((m : Int) == 1) = false := by rw [beq_eq_false_iff_ne]; omega
     clear g3
     go_wp2
     go_ret
     exact ⟨ret_bool HR.out.symm, rfl⟩
def askL : List Value := [
 .bool false, .bool false, .int .i64 0, .int .i64 0, .bool false, .bool false, .int .i64 0, .int .i64 0, .int .i64 0, .string ⟨#[]⟩,
 .bool true, .bool true, .int .i64 0, .int .i64 0, .bool false, .bool false, .int .i64 0, .int .i64 0, .int .i64 6, .string ⟨#[]⟩,
 .bool true, .bool true, .int .i64 0, .int .i64 999999999, .bool false, .bool false, .int .i64 0, .int .i64 0, .int .i64 6, .string ⟨#[]⟩,
 .bool true, .bool true, .int .i64 0, .int .i64 0, .bool false, .bool false, .int .i64 0, .int .i64 0, .int .i64 6, .string ⟨#[]⟩,
 .bool true, .bool true, .int .i64 0, .int .i64 0, .bool false, .bool false, .int .i64 0, .int .i64 0, .int .i64 6, .string ⟨#[]⟩,
 .bool true, .bool true, .int .i64 1, .int .i64 2, .bool false, .bool false, .int .i64 0, .int .i64 0, .int .i64 6, .string ⟨#[]⟩,
 .bool true, .bool false, .int .i64 0, .int .i64 0, .bool true, .bool false, .int .i64 0, .int .i64 0, .int .i64 6, .string ⟨#[]⟩,
 .bool true, .bool false, .int .i64 0, .int .i64 0, .bool false, .bool false, .int .i64 0, .int .i64 0, .int .i64 6, .string ⟨#[]⟩,
 .bool false, .bool false, .int .i64 0, .int .i64 0, .bool false, .bool false, .int .i64 0, .int .i64 0, .int .i64 6, .string ⟨#[]⟩,
 .bool false, .bool false, .int .i64 0, .int .i64 999999999, .bool false, .bool true, .int .i64 1, .int .i64 (-1), .int .i64 0, .string ⟨#[]⟩,
 .bool false, .bool false, .int .i64 0, .int .i64 0, .bool false, .bool false, .int .i64 1, .int .i64 (-1), .int .i64 2, .string ⟨#[32, 65, 78, 68, 32]⟩,
 .bool false, .bool false, .int .i64 0, .int .i64 0, .bool false, .bool false, .int .i64 1, .int .i64 (-1), .int .i64 1, .string ⟨#[32, 79, 82, 32]⟩,
 .bool false, .bool false, .int .i64 0, .int .i64 0, .bool false, .bool false, .int .i64 1, .int .i64 (-1), .int .i64 3, .string ⟨#[32, 124, 32]⟩,
 .bool false, .bool false, .int .i64 0, .int .i64 0, .bool false, .bool false, .int .i64 1, .int .i64 1, .int .i64 4, .string ⟨#[]⟩,
 .bool false, .bool false, .int .i64 0, .int .i64 999999999, .bool false, .bool false, .int .i64 1, .int .i64 1, .int .i64 5, .string ⟨#[94]⟩,
 .bool false, .bool false, .int .i64 0, .int .i64 999999999, .bool false, .bool false, .int .i64 1, .int .i64 1, .int .i64 5, .string ⟨#[94, 61]⟩]
def AskEnv (w : World) : Prop := (∀ j v, askL[j]? = some v → w.cell? ⟨17, j, none⟩ = some v) ∧ 17 < w.heap.size
theorem AskEnv.below {w w' : World} (h : AskEnv w) (hb : Below w.heap.size w w') : AskEnv w' :=
 ⟨fun j v hv => (hb.cell (p := ⟨17, j, none⟩) h.2).trans (h.1 j v hv), Nat.lt_of_lt_of_le h.2 hb.size⟩
theorem occ_bad {l : List Int} {k : Nat} (h : k < l.length) (hb : ¬ (0 ≤ l[k] ∧ l[k] ≤ 2)) : occB l = false := by
 rw [Bool.eq_false_iff]
 intro h2
 unfold occB at h2
 rw [List.all_eq_true] at h2
 have := h2 _ (List.getElem_mem h)
 rw [Bool.and_eq_true, decide_eq_true_eq, decide_eq_true_eq] at this
 exact hb this
theorem occ_good {l : List Int} (h : ∀ (j : Nat) (x : Int), l[j]? = some x → 0 ≤ x ∧ x ≤ 2) : occB l = true := by
 unfold occB
 rw [List.all_eq_true]
 intro x hx
 obtain ⟨j, hj⟩ := List.getElem?_of_mem hx
 have := h j x hj
 rw [Bool.and_eq_true, decide_eq_true_eq, decide_eq_true_eq]; exact this
theorem occ_cell {w : World} {F : Nat → Prop} {A : Option Addr} {n c : Nat} {l : List Int} (h : RdF folS w F ⟨A, n, c⟩ l) {k : Nat} (hk : k < l.length) : ∃ a, A = some a ∧ w.cell? (a.add k) = some (.int .i64 l[k]) := by
 obtain ⟨h1, h2, h3, h4, h5⟩ := h
 obtain ⟨a, e, _, hc⟩ := h4 (by omega)
 have h6 := hc (k * folS.size + 0) (.int .i64 l[k]) (by rw [Shape.cells_get folOk l k 0 hk folOk.pos]; rfl)
 have e7 : k * folS.size + 0 = k := by show k * 1 + 0 = k; omega
 rw [e7] at h6
 exact ⟨a, e, h6⟩
def OwnOk (kind : Int) : Prop := ∀ (n : Int) (field text : List UInt8) (lo hi : Bd) (occ : List Int) (oa ka : Option Addr) (oc kn kc : Nat) (w : World) (F : Nat → Prop), AskEnv w → RdF folS w F ⟨oa, occ.length, oc⟩ occ → text.length ≤ 10000000 →
 Calls Tryd.prog 35 #[.agg #[.int .i64 kind, .string (str field), .string (str text), .int .i64 n, .bool lo.open_, .bool lo.in_, .string (str lo.text), .bool hi.open_, .bool hi.in_, .string (str hi.text), .slice oa occ.length oc, .slice ka kn kc]] w (BoolRet (ownN kind field text n lo hi occ kn) w)
theorem below2 (w : World) (o p : Obj) : Below w.heap.size w ((w.alloc o).alloc p) := ((Below.refl _ _).alloc (Nat.le_refl _) _).alloc (by rw [World.size_alloc]; omega) _
theorem below4 (w : World) (o p q r : Obj) : Below w.heap.size w ((((w.alloc o).alloc p).alloc q).alloc r) := (((below2 w o p).alloc (by rw [World.size_alloc, World.size_alloc]; omega) _)).alloc (by rw [World.size_alloc, World.size_alloc, World.size_alloc]; omega) _
theorem below3 (w : World) (o p q : Obj) : Below w.heap.size w (((w.alloc o).alloc p).alloc q) := (below2 w o p).alloc (by rw [World.size_alloc, World.size_alloc]; omega) _
theorem own_out {kind : Int} (h : kind < 1 ∨ 15 < kind) : OwnOk kind := by
 intro n field text lo hi occ oa ka oc kn kc w F hA hO ht
 have HN := LH (show ownN kind field text n lo hi occ kn = false from by
  unfold ownN
  rw [if_neg (by omega), if_neg (by omega), if_neg (by omega), if_neg (by omega), if_neg (by omega), if_neg (by omega), if_neg (by omega), if_neg (by omega), if_neg (by omega), if_neg (by omega), if_neg (by omega)])
 clear hA hO
 rcases h with h | h
 ·have h2 : decide (kind < 1) = true := decide_eq_true h
  go_enter Tryd.func35, Tryd.ntmps35
  go_wp2
  go_ret
  exact ⟨ret_bool HN.out.symm, (Below.refl _ _).alloc (Nat.le_refl _) _⟩
 ·have h2 : decide (kind < 1) = false := decide_eq_false (by omega)
  have h3 : decide (15 < kind) = true := decide_eq_true h
  go_enter Tryd.func35, Tryd.ntmps35
  go_wp2
  go_ret
  exact ⟨ret_bool HN.out.symm, (Below.refl _ _).alloc (Nat.le_refl _) _⟩
end Go.Proofs.YthcldpminmhgkaaDoor
end
