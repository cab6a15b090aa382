/- Merged for a claim by shake.py: Lpp Lqu -/
import Derived.Test.YthcldpminmhgkaaDoorKbA
import Derived.Test.YthcldpminmhgkaaDoorKb7
set_option maxRecDepth 100000
set_option maxHeartbeats 1000000
section
namespace Go.Proofs.YthcldpminmhgkaaDoor
open Go.RowKit
theorem patSg_pos (f : Bool) (x : Sg) : 1 ≤ (patSg f x).length := by
 unfold patSg esc
 repeat' split
 all_goals simp
theorem patTo_pos (l : List Sg) : ∀ m, m ≤ l.length → m ≤ (patTo l m).length
 | 0, _ => by simp
 | m + 1, h => by
  have := patTo_pos l m (by omega)
  have h2 := patSg_pos (m == 0) (l[m]'(by omega))
  rw [patTo_succ l m (by omega), List.length_append]; omega
theorem patTo_zero (l : List Sg) (m : Nat) (h : m ≤ l.length) : (((patTo l m).length : Int) == 0) = (m == 0) := by
 have h1 := patTo_pos l m h
 have h2 := patTo_length l m
 rw [Bool.eq_iff_iff]; simp only [beq_iff_eq]
 constructor
 ·intro h; omega
 ·intro h; subst h; simp [patTo]
theorem signsB_plain (s : ByteArray) {k : Nat} (h : k < s.size) (h92 : s[k] ≠ 92 ∨ s.size ≤ k + 1) : signsFrom (s.data.toList.drop k) k = ⟨s[k], false, k, 1⟩ :: signsFrom (s.data.toList.drop (k + 1)) (k + 1) :=
 signs_plain (l := s.data.toList) (by rw [← ba_size]; exact h) (h92.imp id fun h => by rw [← ba_size]; exact h)
theorem signsB_letter (s : ByteArray) {k : Nat} (h : k + 1 < s.size) (h92 : s[k] = 92) : signsFrom (s.data.toList.drop k) k = ⟨s[k + 1], true, k, 2⟩ :: signsFrom (s.data.toList.drop (k + 2)) (k + 2) :=
 signs_letter (l := s.data.toList) (by rw [← ba_size]; exact h) h92
def PPos (s : ByteArray) (k m n : Nat) : Prop :=
 k ≤ s.size ∧ m ≤ k ∧ n ≤ k ∧ m ≤ (signs s.data.toList).length ∧ (signs s.data.toList).drop m = signsFrom (s.data.toList.drop k) k
  ∧ ((signs s.data.toList).take m).any wildSg = decide (n ≠ 0) ∧ ((signs s.data.toList).take m).any badSg = false
theorem PPos_start (s : ByteArray) : PPos s 0 0 0 := ⟨by omega, by omega, by omega, by omega, rfl, rfl, rfl⟩
theorem PPos_next {s : ByteArray} {k m n k2 n2 : Nat} {x : Sg} (h : PPos s k m n) (hx : signsFrom (s.data.toList.drop k) k = x :: signsFrom (s.data.toList.drop k2) k2) (hk : k < k2) (hk2 : k2 ≤ s.size)
  (hn : n2 = if wildSg x then n + 1 else n) (hb : badSg x = false) : PPos s k2 (m + 1) n2 ∧ patTo (signs s.data.toList) (m + 1) = patTo (signs s.data.toList) m ++ patSg (m == 0) x := by
 obtain ⟨h1, h2, h3, h4, h5, h6, h7⟩ := h
 rw [hx] at h5
 have hlt : m < (signs s.data.toList).length := by
  rcases Nat.lt_or_ge m (signs s.data.toList).length with h | h
  ·exact h
  ·rw [List.drop_eq_nil_of_le h] at h5; cases h5
 have e := List.drop_eq_getElem_cons hlt
 rw [h5] at e
 injection e with e1 e2
 refine ⟨⟨hk2, by omega, ?_, hlt, e2.symm, ?_, ?_⟩, by rw [patTo_succ _ _ hlt, ← e1]⟩
 ·subst hn; split <;> omega
 ·rw [any_take_snoc _ _ _ hlt, h6, ← e1, hn]
  cases wildSg x <;> simp
 ·rw [any_take_snoc _ _ _ hlt, h7, ← e1, hb]; rfl
theorem PPos_bad {s : ByteArray} {k m n : Nat} (h : PPos s k m n) (hk : k < s.size) (h92 : s[k] = 92) (he : s.size ≤ k + 1) : patternL s.data.toList = [] := by
 obtain ⟨h1, h2, h3, h4, h5, h6, h7⟩ := h
 have hx := signs_plain (l := s.data.toList) (k := k) (by rw [← ba_size]; exact hk) (.inr (by rw [← ba_size]; exact he))
 rw [hx] at h5
 have hb : (signs s.data.toList).any badSg = true := by
  rw [List.any_eq_true]
  refine ⟨_, List.mem_of_mem_drop (i := m) (by rw [h5]; exact List.mem_cons_self), ?_⟩
  show (!false && s[k] == 92) = true
  rw [h92]; rfl
 unfold patternL; rw [if_pos hb]
theorem PPos_end {s : ByteArray} {k m n : Nat} (h : PPos s k m n) (hk : ¬ k < s.size) : patternL s.data.toList = if n = 0 then [] else patTo (signs s.data.toList) m := by
 obtain ⟨h1, h2, h3, h4, h5, h6, h7⟩ := h
 rw [signs_none (by rw [← ba_size]; omega)] at h5
 have hm : m = (signs s.data.toList).length := by
  have := List.drop_eq_nil_iff.1 h5; omega
 have ht : (signs s.data.toList).take m = signs s.data.toList := List.take_of_length_le (by omega)
 rw [ht] at h6 h7
 unfold patternL
 rw [if_neg (by rw [h7]; simp), h6, ← hm]
 by_cases hn : n = 0 <;> simp [hn]
def PpRel (s : ByteArray) (w : World) (v wi i : Value) (wr : World) : Prop :=
 ∃ k m n : Nat, PPos s k m n ∧ i = .int .i64 k ∧ wi = .int .i64 n ∧ OwnB wr w.heap.size v (patTo (signs s.data.toList) m) ∧ Below w.heap.size w wr ∧ ClsEnv wr
theorem letters_one (f : Bool) (c : UInt8) : lettersL f [c] = esc f c := by simp [lettersL, lettersTo]
theorem extract_one (s : ByteArray) (k : Nat) (h : k < s.size) : (s.extract k (k + 1)).data.toList = [s[k]] := by
 rw [Lib.extract_data, drop_cons (by rw [← ba_size]; exact h)]
 simp; rfl
theorem pcls_92 {c : UInt8} (h : cls c = 4) : c = 92 := by
 have := beq_iff_eq.1 (esc_cls c)
 rw [h] at this
 simpa using this
theorem OwnB_form {w : World} {B : Nat} {v : Value} {l : List UInt8} (h : OwnB w B v l) : ∃ A cap, v = .slice A l.length cap := by
 rcases h.2 with ⟨rfl, h0⟩ | ⟨g, cap, cur, rfl, _⟩
 ·exact ⟨none, 0, by rw [h0]⟩
 ·exact ⟨_, cap, rfl⟩
theorem pattern_any (s : ByteArray) (w : World) (hs : s.size ≤ 10000000) (hE : ClsEnv w) :
  Calls Tryd.prog 80 #[.string s] w (StrRet (str (patternL s.data.toList)) w) := by
 have hgw := hE.2
 have HE := LH hE; clear hE
 go_enter Tryd.func80, Tryd.ntmps80
 go_wp2
 go_loopw [3, 4, 5] (fun v wi i wr => PpRel s w v wi i wr) (fun _ _ i _ => s.size - (intOf i).toNat)
 case atStart => exact ⟨0, 0, 0, PPos_start s, rfl, rfl, OwnB.lit0 w (Nat.le_refl _), (Below.refl _ _).alloc (Nat.le_refl _) _, HE.out.below ((Below.refl _ _).alloc (Nat.le_refl _) _)⟩
 case round =>
  obtain ⟨k, m, n, hp, rfl, rfl, hob, hb, hE⟩ := hrel
  obtain ⟨A, cp, rfl⟩ := OwnB_form hob
  have HB := LH hob; clear hob
  have HEr := LH hE; clear hE HE
  have hk := hp.1
  have hn := hp.2.2.1
  have hz := patTo_zero (signs s.data.toList) m hp.2.2.2.1
  have hlq : (patTo (signs s.data.toList) m).length ≤ 20000000 := by have := patTo_length (signs s.data.toList) m; have := hp.2.1; omega
  have HP := LH hp; clear hp
  have HZ := LH hz; clear hz
  have hBr := hb.size
  by_cases hlt : k < s.size
  ·have hbx := u8_lt s[k]
   by_cases h3 : cls s[k] = 3
   ·have hcl : (cls s[k] == 3) = true := by rw [h3]; rfl
    have HX : Hid (wildSg ⟨s[k], false, k, 1⟩ = true ∧ badSg ⟨s[k], false, k, 1⟩ = false ∧ s[k] ≠ 92) := by
     have e : s[k] ≠ 92 := by intro e; rw [e] at h3; exact absurd h3 (by decide)
     exact ⟨by simp [wildSg, h3], by simp [badSg, e], e⟩
    clear h3
    go_wp2_with fail
    refine (class_any s[k] _ HEr.out).mono ?_
    rintro e w1 ⟨rfl, rfl⟩
    go_wp2_with (at_builtin; refine OwnB.appendAt HB.out _ _ rfl _ _ rfl rfl rfl ?_ ?_ ?_ hBr ?_ ?_)
    all_goals first | omega | exact (World.size_alloc ..).symm | skip
    intro v' w' h2 h3 h3k
    have H2 := LH h2; clear h2 h3k
    go_wp2
    go_roundw
    case rel =>
     obtain ⟨hp1, hp2⟩ := PPos_next HP.out (signsB_plain s hlt (.inl HX.out.2.2)) (Nat.lt_succ_self k) hlt (n2 := n + 1) (by rw [if_pos HX.out.1]) HX.out.2.1
     refine ⟨k + 1, m + 1, n + 1, hp1, by go_num, by go_num, ?_, hb.trans h3, HEr.out.belowB hgw h3⟩
     rw [hp2, show patSg (m == 0) ⟨s[k], false, k, 1⟩ = [s[k]] from by unfold patSg; rw [if_pos HX.out.1]]
     simpa [ofNat_byte] using H2.out
    case measure => simp [intOf]; omega
   ·have hcl3 : (cls s[k] == 3) = false := beq_eq_false_iff_ne.2 h3
    by_cases h4 : cls s[k] = 4
    ·have hcl4 : (cls s[k] == 4) = true := by rw [h4]; rfl
     have H92 := LH (pcls_92 h4)
     clear h3 h4
     by_cases hlt2 : k + 1 < s.size
     ·have hne : ((k : Int) + 1 == (s.size : Int)) = false := by rw [beq_eq_false_iff_ne]; omega
      go_wp2_with fail
      refine (class_any s[k] _ HEr.out).mono ?_
      rintro e w1 ⟨rfl, rfl⟩
      go_wp2_with fail
      refine (letters_any _ _ _ w.heap.size _ _ HEr.out HB.out hBr hgw ?_).mono ?_
      ·rw [ByteArray.size_extract]; omega
      rintro e w1 hR
      obtain ⟨v', rfl, ho, hb1⟩ := hR
      have H2 := LH ho; clear ho
      go_wp2
      go_roundw
      case rel =>
       obtain ⟨hp1, hp2⟩ := PPos_next HP.out (signsB_letter s hlt2 H92.out) (by omega : k < k + 2) (by omega) (n2 := n) rfl rfl
       refine ⟨k + 2, m + 1, n, hp1, by go_num, rfl, ?_, hb.trans hb1, HEr.out.belowB hgw hb1⟩
       have h2 := H2.out
       rw [extract_one s (k + 1) hlt2, letters_one, HZ.out] at h2
       rw [hp2]
       exact h2
      case measure => simp [intOf]; omega
     ·have hne : ((k : Int) + 1 == (s.size : Int)) = true := by rw [beq_iff_eq]; omega
      have HQ := LH (PPos_bad HP.out hlt H92.out (by omega))
      go_wp2_with fail
      refine (class_any s[k] _ HEr.out).mono ?_
      rintro e w1 ⟨rfl, rfl⟩
      go_wp2
      go_ret
      exact ⟨by rw [HQ.out]; rfl, hb⟩
    ·have hcl4 : (cls s[k] == 4) = false := beq_eq_false_iff_ne.2 h4
     have HX : Hid (wildSg ⟨s[k], false, k, 1⟩ = false ∧ badSg ⟨s[k], false, k, 1⟩ = false ∧ s[k] ≠ 92) := by
      have e : s[k] ≠ 92 := by intro e; rw [e] at h4; exact absurd rfl h4
      exact ⟨by simp [wildSg, h3], by simp [badSg, e], e⟩
     clear h3 h4
     go_wp2_with fail
     refine (class_any s[k] _ HEr.out).mono ?_
     rintro e w1 ⟨rfl, rfl⟩
     go_wp2_with fail
     refine (letters_any _ _ _ w.heap.size _ _ HEr.out HB.out hBr hgw ?_).mono ?_
     ·rw [ByteArray.size_extract]; omega
     rintro e w1 hR
     obtain ⟨v', rfl, ho, hb1⟩ := hR
     have H2 := LH ho; clear ho
     go_wp2
     go_roundw
     case rel =>
      obtain ⟨hp1, hp2⟩ := PPos_next HP.out (signsB_plain s hlt (.inl HX.out.2.2)) (Nat.lt_succ_self k) hlt (n2 := n) (by rw [if_neg (by rw [HX.out.1]; simp)]) HX.out.2.1
      refine ⟨k + 1, m + 1, n, hp1, by go_num, rfl, ?_, hb.trans hb1, HEr.out.belowB hgw hb1⟩
      have h2 := H2.out
      rw [extract_one s k hlt, letters_one, HZ.out] at h2
      rw [hp2, show patSg (m == 0) ⟨s[k], false, k, 1⟩ = esc (m == 0) s[k] from by unfold patSg; rw [if_neg (by rw [HX.out.1]; simp)]]
      exact h2
     case measure => simp [intOf]; omega
  ·have HQ := LH (PPos_end HP.out hlt)
   by_cases hn0 : n = 0
   ·have hz : ((n : Int) == 0) = true := by rw [hn0]; rfl
    have HR := LH (show patternL s.data.toList = [] from by rw [HQ.out, if_pos hn0])
    clear hn0
    go_wp2
    go_ret
    exact ⟨by rw [HR.out]; rfl, hb⟩
   ·have hz : ((n : Int) == 0) = false := by rw [beq_eq_false_iff_ne]; omega
    have HR := LH (show patternL s.data.toList = patTo (signs s.data.toList) m from by rw [HQ.out, if_neg hn0])
    have HC := LH HB.out.conv
    clear hn0
    go_wp2_with fail
    simp only [HC.out, Result.andThen]
    go_wp2
    go_ret
    exact ⟨by rw [HR.out]; rfl, hb⟩
def QRel (s : ByteArray) (w : World) (v i : Value) (wr : World) : Prop :=
 ∃ k : Nat, k ≤ s.size ∧ i = .int .i64 k ∧ OwnB wr w.heap.size v (quoteTo s.data.toList k) ∧ Below w.heap.size w wr
theorem quote_any (s : ByteArray) (w : World) (hs : s.size ≤ 10000000) :
  Calls Tryd.prog 78 #[.string s] w (StrRet (str (quoteL s.data.toList)) w) := by
 go_enter Tryd.func78, Tryd.ntmps78
 go_wp2
 go_loopw [3, 4] (fun v i wr => QRel s w v i wr) (fun _ i _ => s.size - (intOf i).toNat)
 case atStart => exact ⟨0, by omega, rfl, OwnB.lit1 w (Nat.le_refl _) 34, (Below.refl _ _).alloc (Nat.le_refl _) _⟩
 case round =>
  obtain ⟨k, hk, rfl, hob, hb⟩ := hrel
  have HB := LH hob; clear hob
  have hBr := hb.size
  have hlq : (quoteTo s.data.toList k).length ≤ 20000001 := by have := quoteTo_length s.data.toList k; omega
  by_cases hlt : k < s.size
  ·have hbx := u8_lt s[k]
   have HG := LH (getD_byte s k hlt)
   have hcases : (((s[k].toNat : Int) == 34) = true ∧ qesc s[k] = [92, s[k]]) ∨ (((s[k].toNat : Int) == 34) = false ∧ ((s[k].toNat : Int) == 92) = true ∧ qesc s[k] = [92, s[k]]) ∨ (((s[k].toNat : Int) == 34) = false ∧ ((s[k].toNat : Int) == 92) = false ∧ qesc s[k] = [s[k]]) := by
    rw [show ((s[k].toNat : Int) == 34) = (s[k] == 34) from byte_beq _ 34, show ((s[k].toNat : Int) == 92) = (s[k] == 92) from byte_beq _ 92]
    unfold qesc
    by_cases h3 : s[k] = 34 <;> by_cases h4 : s[k] = 92 <;> simp [h3, h4]
   rcases hcases with ⟨g1, g2⟩ | ⟨g1, g3, g2⟩ | ⟨g1, g3, g2⟩
   ·have HX := LH g2; clear g2
    go_wp2_with (at_builtin; refine OwnB.appendAt HB.out _ _ rfl _ _ rfl rfl rfl ?_ ?_ ?_ hBr ?_ ?_)
    all_goals first | omega | exact (World.size_alloc ..).symm | skip
    intro v' w' h2 h3 h3k
    have H2 := LH h2; clear h2 h3k
    have hbB := hb.trans h3
    go_wp2_with (at_builtin; refine OwnB.appendAt H2.out _ _ rfl _ _ rfl rfl rfl ?_ ?_ ?_ hbB.size ?_ ?_)
    all_goals first | omega | exact (World.size_alloc ..).symm | (rw [List.length_append, List.length_singleton]; omega) | skip
    intro v2 w2 h4 h5 h5k
    have H4 := LH h4
    clear h4 h5k
    go_wp2
    go_roundw
    case rel =>
     refine ⟨k + 1, by omega, by go_num, ?_, hbB.trans h5⟩
     rw [quoteTo, HG.out, HX.out]
     simpa [ofNat_byte] using H4.out
    case measure => simp [intOf]; omega
   ·have HX := LH g2; clear g2
    go_wp2_with (at_builtin; refine OwnB.appendAt HB.out _ _ rfl _ _ rfl rfl rfl ?_ ?_ ?_ hBr ?_ ?_)
    all_goals first | omega | exact (World.size_alloc ..).symm | skip
    intro v' w' h2 h3 h3k
    have H2 := LH h2; clear h2 h3k
    have hbB := hb.trans h3
    go_wp2_with (at_builtin; refine OwnB.appendAt H2.out _ _ rfl _ _ rfl rfl rfl ?_ ?_ ?_ hbB.size ?_ ?_)
    all_goals first | omega | exact (World.size_alloc ..).symm | (rw [List.length_append, List.length_singleton]; omega) | skip
    intro v2 w2 h4 h5 h5k
    have H4 := LH h4
    clear h4 h5k
    go_wp2
    go_roundw
    case rel =>
     refine ⟨k + 1, by omega, by go_num, ?_, hbB.trans h5⟩
     rw [quoteTo, HG.out, HX.out]
     simpa [ofNat_byte] using H4.out
    case measure => simp [intOf]; omega
   ·have HX := LH g2; clear g2
    go_wp2_with (at_builtin; refine OwnB.appendAt HB.out _ _ rfl _ _ rfl rfl rfl ?_ ?_ ?_ hBr ?_ ?_)
    all_goals first | omega | exact (World.size_alloc ..).symm | skip
    intro v2 w2 h4 h5 h5k
    have H4 := LH h4
    clear h4 h5k
    go_wp2
    go_roundw
    case rel =>
     refine ⟨k + 1, by omega, by go_num, ?_, hb.trans h5⟩
     rw [quoteTo, HG.out, HX.out]
     simpa [ofNat_byte] using H4.out
    case measure => simp [intOf]; omega
  ·have HE := LH (show quoteL s.data.toList = quoteTo s.data.toList k ++ [34] from by unfold quoteL; rw [← ba_size, show s.size = k from by omega])
   go_wp2_with (at_builtin; refine OwnB.appendAt HB.out _ _ rfl _ _ rfl rfl rfl ?_ ?_ ?_ hBr ?_ ?_)
   all_goals first | omega | exact (World.size_alloc ..).symm | skip
   intro v2 w2 h4 h5 h5k
   have HC := LH (OwnB.conv h4)
   clear h4 h5k
   go_wp2_with fail
   simp only [HC.out, Result.andThen]
   go_wp2
   go_ret
   exact ⟨by rw [HE.out]; rfl, hb.trans h5⟩
end Go.Proofs.YthcldpminmhgkaaDoor
end
