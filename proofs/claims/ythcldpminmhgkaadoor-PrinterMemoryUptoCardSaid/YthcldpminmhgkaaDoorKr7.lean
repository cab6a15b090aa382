/- Merged for a claim by shake.py: Lpr Lw Lpp Lqu -/
import Derived.Test.YthcldpminmhgkaaDoorKrA
import Derived.Test.YthcldpminmhgkaaDoorKr4
import Derived.Test.YthcldpminmhgkaaDoorKr6
set_option maxRecDepth 100000
set_option maxHeartbeats 1000000
section
namespace Go.Proofs.YthcldpminmhgkaaDoor
open Go.RowKit
theorem patSg_length (f : Bool) (x : Sg) : (patSg f x).length ≤ 2 := by unfold patSg; split; simp; exact esc_length f x.c
theorem patTo_length (l : List Sg) (k : Nat) : (patTo l k).length ≤ 2 * k := by
 induction k with
 | zero => simp [patTo]
 | succ k ih =>
  rw [patTo, List.length_append]
  split
  ·have := patSg_length (k == 0) ‹Sg›; omega
  ·simp; omega
def PRel (l : List Sg) (w : World) (vs : Value) (st v i : Value) (wr : World) : Prop :=
 ∃ k : Nat, k ≤ l.length ∧ i = .int .i64 k ∧ st = .bool ((l.take k).any wildSg) ∧ OwnB wr w.heap.size v (patTo l k) ∧ Below w.heap.size w wr ∧ OwnL sgShape wr w.heap.size vs l
theorem any_take_snoc (p : Sg → Bool) (l : List Sg) (k : Nat) (h : k < l.length) : (l.take (k + 1)).any p = ((l.take k).any p || p l[k]) := by
 rw [take_snoc' l k h, List.any_append]; simp
def StrRet (s : ByteArray) (w : World) (e : Ending) (w' : World) : Prop := e = .returned (.string s) ∧ Below w.heap.size w w'
theorem refPattern_any (s : ByteArray) (w : World) (hs : s.size ≤ 900000000000) :
  Calls Tryd.prog 103 #[.string s] w (StrRet (str (patternL s.data.toList)) w) := by
 have hsl : (signs s.data.toList).length ≤ 900000000000 := by have := signs_length s.data.toList; rw [← ba_size] at this; omega
 by_cases hbad : (signs s.data.toList).any badSg = true
 ·have HP := LH (show patternL s.data.toList = [] from by unfold patternL; rw [if_pos hbad])
  have HC := LH (fun W => canon_any s W hs)
  have HB := LH hbad
  clear hbad hsl hs
  go_enter Tryd.func103, Tryd.ntmps103
  go_wp2_with fail
  refine (HC.out _).mono ?_
  rintro e w1 hR
  obtain ⟨he, hb1⟩ := hR
  rw [if_pos HB.out] at he
  subst he
  go_wp2
  go_ret
  exact ⟨by rw [HP.out]; rfl, hb1⟩
 ·have HC := LH (fun W => canon_any s W hs)
  have HB := LH hbad
  have HQ := LH (show patternL s.data.toList = (if (signs s.data.toList).any wildSg = true then patTo (signs s.data.toList) (signs s.data.toList).length else []) from by unfold patternL; rw [if_neg hbad])
  have HS := LH (fun W => signs_any s W hs)
  clear hbad hs
  go_enter Tryd.func103, Tryd.ntmps103
  go_wp2_with fail
  refine (HC.out _).mono ?_
  rintro e w1 hR
  obtain ⟨he, hb1⟩ := hR
  rw [if_neg HB.out] at he
  subst he
  go_wp2_with fail
  refine (HS.out _).mono ?_
  rintro e w2 hR
  obtain ⟨v, rfl, ho, hb2⟩ := hR
  obtain ⟨A, cap, rfl, hcap, hml, _⟩ := ho.open_
  generalize signs s.data.toList = l at *
  have hb0 : Below w.heap.size w w2 := (hb1.alloc hb1.size _).trans (hb2.mono (by simp; have := hb1.size; omega))
  have HL := LH (ho.more (B2 := w.heap.size) (by simp; have := hb1.size; omega)); clear ho
  have HB0 := LH ((OwnB.lit0 w1 hb1.size).below hb2)
  unfold maxLen at hml
  go_wp2
  go_loopw [5, 6, 20] (fun st v i wr => PRel l w (.slice A l.length cap) st v i wr) (fun _ _ i _ => l.length - (intOf i).toNat)
  case atStart => exact ⟨0, by omega, rfl, rfl, HB0.out, hb0, HL.out⟩
  case round =>
   obtain ⟨k, hk, rfl, rfl, hob, hb, how⟩ := hrel
   have HB := LH hob; clear hob
   have HW := LH how; clear how
   have hBr := hb.size
   have hlq : (patTo l k).length ≤ 1800000000000 := by have := patTo_length l k; omega
   by_cases hlt : k < l.length
   ·obtain ⟨g, hA, hx⟩ := HW.out.at_ sgOk hlt
    subst hA
    have c0 : wr.cell? ⟨g, k * 4, none⟩ = some (.int .u8 (l[k].c.toNat : Int)) := hx 0 _ (by decide) rfl
    have c1 : wr.cell? ⟨g, k * 4 + 1, none⟩ = some (.bool l[k].letter) := hx 1 _ (by decide) rfl
    have c2 : wr.cell? ⟨g, k * 4 + 2, none⟩ = some (.int .i64 l[k].place) := hx 2 _ (by decide) rfl
    have c3 : wr.cell? ⟨g, k * 4 + 3, none⟩ = some (.int .i64 l[k].size) := hx 3 _ (by decide) rfl
    clear hx
    have HT := LH (patTo_succ l k hlt)
    have HA := LH (any_take_snoc wildSg l k hlt)
    have hkk : ((k : Int) == 0) = (k == 0) := by rw [Bool.eq_iff_iff]; simp
    have HK := LH hkk; clear hkk
    generalize l[k] = x at *
    obtain ⟨c, lt, pl, sz⟩ := x
    have hbx := u8_lt c
    have hbA := hb.alloc hb.size (.cells #[.int .u8 (c.toNat : Int), .bool lt, .int .i64 pl, .int .i64 sz] 133)
    have HBA := LH (HB.out.alloc (.cells #[.int .u8 (c.toNat : Int), .bool lt, .int .i64 pl, .int .i64 sz] 133))
    have HWA := LH (HW.out.alloc (.cells #[.int .u8 (c.toNat : Int), .bool lt, .int .i64 pl, .int .i64 sz] 133))
    by_cases hwild : lt = false ∧ cls c = 3
    ·obtain ⟨rfl, h3⟩ := hwild
     have HX : Hid (patSg (k == 0) ⟨c, false, pl, sz⟩ = [c] ∧ wildSg ⟨c, false, pl, sz⟩ = true) := by
      have e : wildSg ⟨c, false, pl, sz⟩ = true := by simp [wildSg, h3]
      exact ⟨by unfold patSg; rw [if_pos e], e⟩
     go_wp2_with fail
     refine (wild_any c _).mono ?_
     rintro e w3 ⟨rfl, rfl⟩
     go_wp2_with (at_builtin; refine OwnB.appendAt HBA.out _ _ rfl _ _ rfl rfl rfl ?_ ?_ ?_ hbA.size ?_ ?_)
     all_goals first | omega | exact (World.size_alloc ..).symm | skip
     intro v' w' h2 h3 h3k
     have H2 := LH h2
     have HW2 := LH (HWA.out.keptB HBA.out (by decide) h3k)
     clear h2 h3k
     go_wp2
     go_roundw
     case rel =>
      refine ⟨k + 1, by omega, by go_num, ?_, ?_, hbA.trans h3, HW2.out⟩
      ·rw [HA.out, HX.out.2]; simp
      ·rw [HT.out, HX.out.1]
       simpa [ofNat_byte] using H2.out
     case measure => simp [intOf]; omega
    ·have HX : Hid (patSg (k == 0) ⟨c, lt, pl, sz⟩ = esc (k == 0) c ∧ wildSg ⟨c, lt, pl, sz⟩ = false) := by
      have e : wildSg ⟨c, lt, pl, sz⟩ = false := by
       simp only [wildSg]
       cases lt
       ·have : cls c ≠ 3 := fun h => hwild ⟨rfl, h⟩
        simp [this]
       ·rfl
      exact ⟨by unfold patSg; rw [if_neg (by rw [e]; simp)], e⟩
     have hesc : (esc (k == 0) c).length ≤ 2 := esc_length _ _
     have hlw : lt = true ∨ (lt = false ∧ decide (cls c = 3) = false) := by
      cases lt
      ·right; exact ⟨rfl, by simpa using fun h => hwild ⟨rfl, h⟩⟩
      ·left; rfl
     clear hwild
     rcases hlw with rfl | ⟨rfl, h3⟩
     ·go_wp2_with fail
      rw [HK.out]
      refine (escaped_any c _ _).mono ?_
      rintro e w3 hR
      obtain ⟨x, rfl, hx, hb3⟩ := hR
      have HXX := LH hx; clear hx
      have HB3 := LH (HBA.out.below hb3)
      have HW3 := LH (HWA.out.below hb3)
      have hb4 := hbA.trans (hb3.mono hbA.size)
      go_wp2_with (at_builtin; refine OwnB.appendAllK HB3.out HXX.out rfl _ _ rfl rfl rfl hb4.size ?_ ?_)
      all_goals first | omega | skip
      intro v' w' h2 h3 h3k
      have H2 := LH h2
      have HW2 := LH (HW3.out.keptB HB3.out (by decide) h3k)
      clear h2 h3k
      go_wp2
      go_roundw
      case rel =>
       refine ⟨k + 1, by omega, by go_num, ?_, ?_, hb4.trans h3, HW2.out⟩
       ·rw [HA.out, HX.out.2]; simp
       ·rw [HT.out, HX.out.1]; exact H2.out
      case measure => simp [intOf]; omega
     ·go_wp2_with fail
      refine (wild_any c _).mono ?_
      rintro e w3 ⟨rfl, rfl⟩
      go_wp2_with fail
      rw [HK.out]
      refine (escaped_any c _ _).mono ?_
      rintro e w3 hR
      obtain ⟨x, rfl, hx, hb3⟩ := hR
      have HXX := LH hx; clear hx
      have HB3 := LH (HBA.out.below hb3)
      have HW3 := LH (HWA.out.below hb3)
      have hb4 := hbA.trans (hb3.mono hbA.size)
      go_wp2_with (at_builtin; refine OwnB.appendAllK HB3.out HXX.out rfl _ _ rfl rfl rfl hb4.size ?_ ?_)
      all_goals first | omega | skip
      intro v' w' h2 h3 h3k
      have H2 := LH h2
      have HW2 := LH (HW3.out.keptB HB3.out (by decide) h3k)
      clear h2 h3k
      go_wp2
      go_roundw
      case rel =>
       refine ⟨k + 1, by omega, by go_num, ?_, ?_, hb4.trans h3, HW2.out⟩
       ·rw [HA.out, HX.out.2]; simp
       ·rw [HT.out, HX.out.1]; exact H2.out
      case measure => simp [intOf]; omega
   ·have e : l.take k = l := List.take_of_length_le (by omega)
    have ek : k = l.length := by omega
    have HE := LH e; have HEK := LH ek; clear e ek
    by_cases hst : l.any wildSg = true
    ·have h1 : (l.take k).any wildSg = true := by rw [HE.out]; exact hst
     have HC := LH HB.out.conv
     have HR := LH (show patternL s.data.toList = patTo l k from by rw [HQ.out, if_pos hst, HEK.out])
     clear hst
     go_wp2_with fail
     simp only [HC.out, Result.andThen]
     go_wp2
     go_ret
     exact ⟨by rw [HR.out]; rfl, hb⟩
    ·have h1 : (l.take k).any wildSg = false := by rw [HE.out]; simpa using hst
     have HR := LH (show patternL s.data.toList = [] from by rw [HQ.out, if_neg hst])
     clear hst
     go_wp2
     go_ret
     exact ⟨by rw [HR.out]; rfl, hb⟩
theorem letters_any (s : ByteArray) (first : Bool) (v0 : Value) (B : Nat) (l0 : List UInt8) (w : World) (hE : ClsEnv w) (hown : OwnB w B v0 l0) (hB : B ≤ w.heap.size) (hEB : 25 < B) (hs : s.size + l0.length ≤ 20000000000000) :
  Calls Tryd.prog 77 #[v0, .string s, .bool first] w (RetB w B (l0 ++ lettersL first s.data.toList)) := by
 have HS := LH hs
 have hs1 : s.size ≤ 20000000000000 := by omega
 clear hs
 go_enter Tryd.func77, Tryd.ntmps77
 go_wp2
 go_loopw [0, 7] (fun v i wr => LRel s first w B l0 v i wr) (fun _ i _ => s.size - (intOf i).toNat)
 case atStart => exact ⟨0, by omega, rfl, by simpa [lettersTo] using hown, Below.refl _ _, hE⟩
 case round =>
  obtain ⟨k, hk, rfl, ho, hb, hEr⟩ := hrel
  have HE := LH hEr; clear hEr
  have HO := LH ho; clear ho
  by_cases hlt : k < s.size
  ·go_upto_region 4 with (fail)
   go_cut [37] (fun s37 wx => s37 = .bool (needB first k s[k]) ∧ wr = wx)
   case first =>
    rcases need_cases first k s[k] with ⟨g1, g2⟩ | ⟨g1, rfl, g2⟩ | ⟨g1, rfl, g3, g2⟩ | ⟨g1, rfl, g3, g4, g2⟩ | ⟨g1, rfl, g3, g4, g5, g2⟩ | ⟨g1, rfl, g3, g4, g5, g2⟩
    all_goals
     have G2 := LH g2; clear g2
     go_wp2_with fail
     refine (class_any s[k] _ HE.out).mono ?_
     rintro e w1 ⟨rfl, rfl⟩
     go_wp2
     go_meet
     exact ⟨by rw [G2.out], rfl⟩
   case rest =>
    obtain ⟨rfl, rfl⟩ := hcut
    generalize hn : needB first k s[k] = nb
    have HN := LH hn; clear hn
    have hBr := Nat.le_trans hB hb.size
    have hl := LH (lettersTo_length first s.data.toList k)
    have hb0 := u8_lt s[k]
    cases nb
    ·go_wp2_with (at_builtin; refine OwnB.append HO.out _ ?_ ?_ rfl _ _ rfl rfl rfl hBr ?_ ?_)
     ·omega
     ·omega
     ·have := hl.out; have := HS.out; rw [List.length_append]; omega
     ·intro v' w' h2 h3
      go_wp2
      go_roundw
      case rel =>
       refine ⟨k + 1, by omega, by go_num, ?_, hb.trans h3, (HE.out).belowB hEB h3⟩
       rw [letters_step hlt HN.out]
       simpa [ofNat_byte] using h2
      case measure => simp [intOf]; omega
    ·go_wp2_with (at_builtin; refine OwnB.append HO.out _ ?_ ?_ rfl _ _ rfl rfl rfl hBr ?_ ?_)
     ·omega
     ·omega
     ·have := hl.out; have := HS.out; rw [List.length_append]; omega
     ·intro v' w' h2 h3
      have H2 := LH h2; clear h2
      have hBr2 := Nat.le_trans hBr h3.size
      go_wp2_with (at_builtin; refine OwnB.append H2.out _ ?_ ?_ rfl _ _ rfl rfl rfl hBr2 ?_ ?_)
      ·omega
      ·omega
      ·have := hl.out; have := HS.out; simp only [List.length_append, List.length_singleton]; omega
      ·intro v2 w2 h4 h5
       go_wp2
       go_roundw
       case rel =>
        refine ⟨k + 1, by omega, by go_num, ?_, (hb.trans h3).trans h5, (HE.out).belowB hEB (h3.trans h5)⟩
        rw [letters_step hlt HN.out]
        simpa [ofNat_byte] using h4
       case measure => simp [intOf]; omega
  ·have he := LH (letters_end (first := first) hk hlt)
   go_wp2
   go_ret
   exact ⟨_, rfl, by rw [← he.out]; exact HO.out, hb⟩
theorem word_any (s : ByteArray) (w : World) (hE : ClsEnv w) (hs : s.size ≤ 900000000000) :
  Calls Tryd.prog 57 #[.string s] w fun e w' => e = .returned (.string (str (wordL s.data.toList))) ∧ Below w.heap.size w w' := by
 have hs1 : s.size ≤ 900000000000 := hs
 by_cases hk : kwd s.data.toList = 1
 ·have hkb : (kwd s.data.toList != 1) = false := by rw [hk]; rfl
  have HK := LH hk; clear hk
  go_enter Tryd.func57, Tryd.ntmps57
  go_wp2_with fail
  refine (keyword_any s _).mono ?_
  rintro e w1 ⟨rfl, rfl⟩
  go_wp2_with fail
  refine (letters_any s true _ w.heap.size [] w hE (OwnB.nil _ _) (Nat.le_refl _) hE.2 (by simp; omega)).mono ?_
  rintro e w1 hR
  obtain ⟨v, rfl, ho, hb⟩ := hR
  have HC := LH ho.conv
  clear ho
  go_wp2_with fail
  simp only [HC.out, Result.andThen]
  go_wp2
  go_ret
  exact ⟨by unfold wordL; rw [if_neg (by rw [HK.out]; simp)]; rfl, hb⟩
 ·have hkb : (kwd s.data.toList != 1) = true := by simp [hk]
  have HK := LH hk; clear hk
  go_enter Tryd.func57, Tryd.ntmps57
  go_wp2_with fail
  refine (keyword_any s _).mono ?_
  rintro e w1 ⟨rfl, rfl⟩
  go_wp2
  go_ret
  refine ⟨?_, Below.refl _ _⟩
  have e : (⟨#[92]⟩ : ByteArray) ++ s = str (wordL s.data.toList) := ba_ext (by rw [ba_append, str_data]; unfold wordL; rw [if_pos HK.out]; rfl)
  rw [← e]; rfl
theorem patSg_pos (f : Bool) (x : Sg) : 1 ≤ (patSg f x).length := by
 unfold patSg esc
 repeat' split
 all_goals simp
theorem patTo_pos (l : List Sg) : ∀ m, m ≤ l.length → m ≤ (patTo l m).length
 | 0, _ => by simp
 | m + 1, h => by
  have := patTo_pos l m (by omega)
  have h2 := patSg_pos (m == 0) (l[m]'(by omega))
  rw [patTo_succ l m (by omega), List.length_append]; omega
theorem patTo_zero (l : List Sg) (m : Nat) (h : m ≤ l.length) : (((patTo l m).length : Int) == 0) = (m == 0) := by
 have h1 := patTo_pos l m h
 have h2 := patTo_length l m
 rw [Bool.eq_iff_iff]; simp only [beq_iff_eq]
 constructor
 ·intro h; omega
 ·intro h; subst h; simp [patTo]
theorem signsB_plain (s : ByteArray) {k : Nat} (h : k < s.size) (h92 : s[k] ≠ 92 ∨ s.size ≤ k + 1) : signsFrom (s.data.toList.drop k) k = ⟨s[k], false, k, 1⟩ :: signsFrom (s.data.toList.drop (k + 1)) (k + 1) :=
 signs_plain (l := s.data.toList) (by rw [← ba_size]; exact h) (h92.imp id fun h => by rw [← ba_size]; exact h)
theorem signsB_letter (s : ByteArray) {k : Nat} (h : k + 1 < s.size) (h92 : s[k] = 92) : signsFrom (s.data.toList.drop k) k = ⟨s[k + 1], true, k, 2⟩ :: signsFrom (s.data.toList.drop (k + 2)) (k + 2) :=
 signs_letter (l := s.data.toList) (by rw [← ba_size]; exact h) h92
def PPos (s : ByteArray) (k m n : Nat) : Prop :=
 k ≤ s.size ∧ m ≤ k ∧ n ≤ k ∧ m ≤ (signs s.data.toList).length ∧ (signs s.data.toList).drop m = signsFrom (s.data.toList.drop k) k
  ∧ ((signs s.data.toList).take m).any wildSg = decide (n ≠ 0) ∧ ((signs s.data.toList).take m).any badSg = false
theorem PPos_start (s : ByteArray) : PPos s 0 0 0 := ⟨by omega, by omega, by omega, by omega, rfl, rfl, rfl⟩
theorem PPos_next {s : ByteArray} {k m n k2 n2 : Nat} {x : Sg} (h : PPos s k m n) (hx : signsFrom (s.data.toList.drop k) k = x :: signsFrom (s.data.toList.drop k2) k2) (hk : k < k2) (hk2 : k2 ≤ s.size)
  (hn : n2 = if wildSg x then n + 1 else n) (hb : badSg x = false) : PPos s k2 (m + 1) n2 ∧ patTo (signs s.data.toList) (m + 1) = patTo (signs s.data.toList) m ++ patSg (m == 0) x := by
 obtain ⟨h1, h2, h3, h4, h5, h6, h7⟩ := h
 rw [hx] at h5
 have hlt : m < (signs s.data.toList).length := by
  rcases Nat.lt_or_ge m (signs s.data.toList).length with h | h
  ·exact h
  ·rw [List.drop_eq_nil_of_le h] at h5; cases h5
 have e := List.drop_eq_getElem_cons hlt
 rw [h5] at e
 injection e with e1 e2
 refine ⟨⟨hk2, by omega, ?_, hlt, e2.symm, ?_, ?_⟩, by rw [patTo_succ _ _ hlt, ← e1]⟩
 ·subst hn; split <;> omega
 ·rw [any_take_snoc _ _ _ hlt, h6, ← e1, hn]
  cases wildSg x <;> simp
 ·rw [any_take_snoc _ _ _ hlt, h7, ← e1, hb]; rfl
theorem PPos_bad {s : ByteArray} {k m n : Nat} (h : PPos s k m n) (hk : k < s.size) (h92 : s[k] = 92) (he : s.size ≤ k + 1) : patternL s.data.toList = [] := by
 obtain ⟨h1, h2, h3, h4, h5, h6, h7⟩ := h
 have hx := signs_plain (l := s.data.toList) (k := k) (by rw [← ba_size]; exact hk) (.inr (by rw [← ba_size]; exact he))
 rw [hx] at h5
 have hb : (signs s.data.toList).any badSg = true := by
  rw [List.any_eq_true]
  refine ⟨_, List.mem_of_mem_drop (i := m) (by rw [h5]; exact List.mem_cons_self), ?_⟩
  show (!false && s[k] == 92) = true
  rw [h92]; rfl
 unfold patternL; rw [if_pos hb]
theorem PPos_end {s : ByteArray} {k m n : Nat} (h : PPos s k m n) (hk : ¬ k < s.size) : patternL s.data.toList = if n = 0 then [] else patTo (signs s.data.toList) m := by
 obtain ⟨h1, h2, h3, h4, h5, h6, h7⟩ := h
 rw [signs_none (by rw [← ba_size]; omega)] at h5
 have hm : m = (signs s.data.toList).length := by
  have := List.drop_eq_nil_iff.1 h5; omega
 have ht : (signs s.data.toList).take m = signs s.data.toList := List.take_of_length_le (by omega)
 rw [ht] at h6 h7
 unfold patternL
 rw [if_neg (by rw [h7]; simp), h6, ← hm]
 by_cases hn : n = 0 <;> simp [hn]
def PpRel (s : ByteArray) (w : World) (v wi i : Value) (wr : World) : Prop :=
 ∃ k m n : Nat, PPos s k m n ∧ i = .int .i64 k ∧ wi = .int .i64 n ∧ OwnB wr w.heap.size v (patTo (signs s.data.toList) m) ∧ Below w.heap.size w wr ∧ ClsEnv wr
theorem letters_one (f : Bool) (c : UInt8) : lettersL f [c] = esc f c := by simp [lettersL, lettersTo]
theorem extract_one (s : ByteArray) (k : Nat) (h : k < s.size) : (s.extract k (k + 1)).data.toList = [s[k]] := by
 rw [Lib.extract_data, drop_cons (by rw [← ba_size]; exact h)]
 simp; rfl
theorem pcls_92 {c : UInt8} (h : cls c = 4) : c = 92 := by
 have := beq_iff_eq.1 (esc_cls c)
 rw [h] at this
 simpa using this
theorem OwnB_form {w : World} {B : Nat} {v : Value} {l : List UInt8} (h : OwnB w B v l) : ∃ A cap, v = .slice A l.length cap := by
 rcases h.2 with ⟨rfl, h0⟩ | ⟨g, cap, cur, rfl, _⟩
 ·exact ⟨none, 0, by rw [h0]⟩
 ·exact ⟨_, cap, rfl⟩
theorem pattern_any (s : ByteArray) (w : World) (hs : s.size ≤ 900000000000) (hE : ClsEnv w) :
  Calls Tryd.prog 80 #[.string s] w (StrRet (str (patternL s.data.toList)) w) := by
 have hgw := hE.2
 have HE := LH hE; clear hE
 go_enter Tryd.func80, Tryd.ntmps80
 go_wp2
 go_loopw [3, 4, 5] (fun v wi i wr => PpRel s w v wi i wr) (fun _ _ i _ => s.size - (intOf i).toNat)
 case atStart => exact ⟨0, 0, 0, PPos_start s, rfl, rfl, OwnB.lit0 w (Nat.le_refl _), (Below.refl _ _).alloc (Nat.le_refl _) _, HE.out.below ((Below.refl _ _).alloc (Nat.le_refl _) _)⟩
 case round =>
  obtain ⟨k, m, n, hp, rfl, rfl, hob, hb, hE⟩ := hrel
  obtain ⟨A, cp, rfl⟩ := OwnB_form hob
  have HB := LH hob; clear hob
  have HEr := LH hE; clear hE HE
  have hk := hp.1
  have hn := hp.2.2.1
  have hz := patTo_zero (signs s.data.toList) m hp.2.2.2.1
  have hlq : (patTo (signs s.data.toList) m).length ≤ 1800000000000 := by have := patTo_length (signs s.data.toList) m; have := hp.2.1; omega
  have HP := LH hp; clear hp
  have HZ := LH hz; clear hz
  have hBr := hb.size
  by_cases hlt : k < s.size
  ·have hbx := u8_lt s[k]
   by_cases h3 : cls s[k] = 3
   ·have hcl : (cls s[k] == 3) = true := by rw [h3]; rfl
    have HX : Hid (wildSg ⟨s[k], false, k, 1⟩ = true ∧ badSg ⟨s[k], false, k, 1⟩ = false ∧ s[k] ≠ 92) := by
     have e : s[k] ≠ 92 := by intro e; rw [e] at h3; exact absurd h3 (by decide)
     exact ⟨by simp [wildSg, h3], by simp [badSg, e], e⟩
    clear h3
    go_wp2_with fail
    refine (class_any s[k] _ HEr.out).mono ?_
    rintro e w1 ⟨rfl, rfl⟩
    go_wp2_with (at_builtin; refine OwnB.appendAt HB.out _ _ rfl _ _ rfl rfl rfl ?_ ?_ ?_ hBr ?_ ?_)
    all_goals first | omega | exact (World.size_alloc ..).symm | skip
    intro v' w' h2 h3 h3k
    have H2 := LH h2; clear h2 h3k
    go_wp2
    go_roundw
    case rel =>
     obtain ⟨hp1, hp2⟩ := PPos_next HP.out (signsB_plain s hlt (.inl HX.out.2.2)) (Nat.lt_succ_self k) hlt (n2 := n + 1) (by rw [if_pos HX.out.1]) HX.out.2.1
     refine ⟨k + 1, m + 1, n + 1, hp1, by go_num, by go_num, ?_, hb.trans h3, HEr.out.belowB hgw h3⟩
     rw [hp2, show patSg (m == 0) ⟨s[k], false, k, 1⟩ = [s[k]] from by unfold patSg; rw [if_pos HX.out.1]]
     simpa [ofNat_byte] using H2.out
    case measure => simp [intOf]; omega
   ·have hcl3 : (cls s[k] == 3) = false := beq_eq_false_iff_ne.2 h3
    by_cases h4 : cls s[k] = 4
    ·have hcl4 : (cls s[k] == 4) = true := by rw [h4]; rfl
     have H92 := LH (pcls_92 h4)
     clear h3 h4
     by_cases hlt2 : k + 1 < s.size
     ·have hne : ((k : Int) + 1 == (s.size : Int)) = false := by rw [beq_eq_false_iff_ne]; omega
      go_wp2_with fail
      refine (class_any s[k] _ HEr.out).mono ?_
      rintro e w1 ⟨rfl, rfl⟩
      go_wp2_with fail
      refine (letters_any _ _ _ w.heap.size _ _ HEr.out HB.out hBr hgw ?_).mono ?_
      ·rw [ByteArray.size_extract]; omega
      rintro e w1 hR
      obtain ⟨v', rfl, ho, hb1⟩ := hR
      have H2 := LH ho; clear ho
      go_wp2
      go_roundw
      case rel =>
       obtain ⟨hp1, hp2⟩ := PPos_next HP.out (signsB_letter s hlt2 H92.out) (by omega : k < k + 2) (by omega) (n2 := n) rfl rfl
       refine ⟨k + 2, m + 1, n, hp1, by go_num, rfl, ?_, hb.trans hb1, HEr.out.belowB hgw hb1⟩
       have h2 := H2.out
       rw [extract_one s (k + 1) hlt2, letters_one, HZ.out] at h2
       rw [hp2]
       exact h2
      case measure => simp [intOf]; omega
     ·have hne : ((k : Int) + 1 == (s.size : Int)) = true := by rw [beq_iff_eq]; omega
      have HQ := LH (PPos_bad HP.out hlt H92.out (by omega))
      go_wp2_with fail
      refine (class_any s[k] _ HEr.out).mono ?_
      rintro e w1 ⟨rfl, rfl⟩
      go_wp2
      go_ret
      exact ⟨by rw [HQ.out]; rfl, hb⟩
    ·have hcl4 : (cls s[k] == 4) = false := beq_eq_false_iff_ne.2 h4
     have HX : Hid (wildSg ⟨s[k], false, k, 1⟩ = false ∧ badSg ⟨s[k], false, k, 1⟩ = false ∧ s[k] ≠ 92) := by
      have e : s[k] ≠ 92 := by intro e; rw [e] at h4; exact absurd rfl h4
      exact ⟨by simp [wildSg, h3], by simp [badSg, e], e⟩
     clear h3 h4
     go_wp2_with fail
     refine (class_any s[k] _ HEr.out).mono ?_
     rintro e w1 ⟨rfl, rfl⟩
     go_wp2_with fail
     refine (letters_any _ _ _ w.heap.size _ _ HEr.out HB.out hBr hgw ?_).mono ?_
     ·rw [ByteArray.size_extract]; omega
     rintro e w1 hR
     obtain ⟨v', rfl, ho, hb1⟩ := hR
     have H2 := LH ho; clear ho
     go_wp2
     go_roundw
     case rel =>
      obtain ⟨hp1, hp2⟩ := PPos_next HP.out (signsB_plain s hlt (.inl HX.out.2.2)) (Nat.lt_succ_self k) hlt (n2 := n) (by rw [if_neg (by rw [HX.out.1]; simp)]) HX.out.2.1
      refine ⟨k + 1, m + 1, n, hp1, by go_num, rfl, ?_, hb.trans hb1, HEr.out.belowB hgw hb1⟩
      have h2 := H2.out
      rw [extract_one s k hlt, letters_one, HZ.out] at h2
      rw [hp2, show patSg (m == 0) ⟨s[k], false, k, 1⟩ = esc (m == 0) s[k] from by unfold patSg; rw [if_neg (by rw [HX.out.1]; simp)]]
      exact h2
     case measure => simp [intOf]; omega
  ·have HQ := LH (PPos_end HP.out hlt)
   by_cases hn0 : n = 0
   ·have hz : ((n : Int) == 0) = true := by rw [hn0]; rfl
    have HR := LH (show patternL s.data.toList = [] from by rw [HQ.out, if_pos hn0])
    clear hn0
    go_wp2
    go_ret
    exact ⟨by rw [HR.out]; rfl, hb⟩
   ·have hz : ((n : Int) == 0) = false := by rw [beq_eq_false_iff_ne]; omega
    have HR := LH (show patternL s.data.toList = patTo (signs s.data.toList) m from by rw [HQ.out, if_neg hn0])
    have HC := LH HB.out.conv
    clear hn0
    go_wp2_with fail
    simp only [HC.out, Result.andThen]
    go_wp2
    go_ret
    exact ⟨by rw [HR.out]; rfl, hb⟩
def QRel (s : ByteArray) (w : World) (v i : Value) (wr : World) : Prop :=
 ∃ k : Nat, k ≤ s.size ∧ i = .int .i64 k ∧ OwnB wr w.heap.size v (quoteTo s.data.toList k) ∧ Below w.heap.size w wr
theorem quote_any (s : ByteArray) (w : World) (hs : s.size ≤ 900000000000) :
  Calls Tryd.prog 78 #[.string s] w (StrRet (str (quoteL s.data.toList)) w) := by
 go_enter Tryd.func78, Tryd.ntmps78
 go_wp2
 go_loopw [3, 4] (fun v i wr => QRel s w v i wr) (fun _ i _ => s.size - (intOf i).toNat)
 case atStart => exact ⟨0, by omega, rfl, OwnB.lit1 w (Nat.le_refl _) 34, (Below.refl _ _).alloc (Nat.le_refl _) _⟩
 case round =>
  obtain ⟨k, hk, rfl, hob, hb⟩ := hrel
  have HB := LH hob; clear hob
  have hBr := hb.size
  have hlq : (quoteTo s.data.toList k).length ≤ 1800000000001 := by have := quoteTo_length s.data.toList k; omega
  by_cases hlt : k < s.size
  ·have hbx := u8_lt s[k]
   have HG := LH (getD_byte s k hlt)
   have hcases : (((s[k].toNat : Int) == 34) = true ∧ qesc s[k] = [92, s[k]]) ∨ (((s[k].toNat : Int) == 34) = false ∧ ((s[k].toNat : Int) == 92) = true ∧ qesc s[k] = [92, s[k]]) ∨ (((s[k].toNat : Int) == 34) = false ∧ ((s[k].toNat : Int) == 92) = false ∧ qesc s[k] = [s[k]]) := by
    rw [show ((s[k].toNat : Int) == 34) = (s[k] == 34) from byte_beq _ 34, show ((s[k].toNat : Int) == 92) = (s[k] == 92) from byte_beq _ 92]
    unfold qesc
    by_cases h3 : s[k] = 34 <;> by_cases h4 : s[k] = 92 <;> simp [h3, h4]
   rcases hcases with ⟨g1, g2⟩ | ⟨g1, g3, g2⟩ | ⟨g1, g3, g2⟩
   ·have HX := LH g2; clear g2
    go_wp2_with (at_builtin; refine OwnB.appendAt HB.out _ _ rfl _ _ rfl rfl rfl ?_ ?_ ?_ hBr ?_ ?_)
    all_goals first | omega | exact (World.size_alloc ..).symm | skip
    intro v' w' h2 h3 h3k
    have H2 := LH h2; clear h2 h3k
    have hbB := hb.trans h3
    go_wp2_with (at_builtin; refine OwnB.appendAt H2.out _ _ rfl _ _ rfl rfl rfl ?_ ?_ ?_ hbB.size ?_ ?_)
    all_goals first | omega | exact (World.size_alloc ..).symm | (rw [List.length_append, List.length_singleton]; omega) | skip
    intro v2 w2 h4 h5 h5k
    have H4 := LH h4
    clear h4 h5k
    go_wp2
    go_roundw
    case rel =>
     refine ⟨k + 1, by omega, by go_num, ?_, hbB.trans h5⟩
     rw [quoteTo, HG.out, HX.out]
     simpa [ofNat_byte] using H4.out
    case measure => simp [intOf]; omega
   ·have HX := LH g2; clear g2
    go_wp2_with (at_builtin; refine OwnB.appendAt HB.out _ _ rfl _ _ rfl rfl rfl ?_ ?_ ?_ hBr ?_ ?_)
    all_goals first | omega | exact (World.size_alloc ..).symm | skip
    intro v' w' h2 h3 h3k
    have H2 := LH h2; clear h2 h3k
    have hbB := hb.trans h3
    go_wp2_with (at_builtin; refine OwnB.appendAt H2.out _ _ rfl _ _ rfl rfl rfl ?_ ?_ ?_ hbB.size ?_ ?_)
    all_goals first | omega | exact (World.size_alloc ..).symm | (rw [List.length_append, List.length_singleton]; omega) | skip
    intro v2 w2 h4 h5 h5k
    have H4 := LH h4
    clear h4 h5k
    go_wp2
    go_roundw
    case rel =>
     refine ⟨k + 1, by omega, by go_num, ?_, hbB.trans h5⟩
     rw [quoteTo, HG.out, HX.out]
     simpa [ofNat_byte] using H4.out
    case measure => simp [intOf]; omega
   ·have HX := LH g2; clear g2
    go_wp2_with (at_builtin; refine OwnB.appendAt HB.out _ _ rfl _ _ rfl rfl rfl ?_ ?_ ?_ hBr ?_ ?_)
    all_goals first | omega | exact (World.size_alloc ..).symm | skip
    intro v2 w2 h4 h5 h5k
    have H4 := LH h4
    clear h4 h5k
    go_wp2
    go_roundw
    case rel =>
     refine ⟨k + 1, by omega, by go_num, ?_, hb.trans h5⟩
     rw [quoteTo, HG.out, HX.out]
     simpa [ofNat_byte] using H4.out
    case measure => simp [intOf]; omega
  ·have HE := LH (show quoteL s.data.toList = quoteTo s.data.toList k ++ [34] from by unfold quoteL; rw [← ba_size, show s.size = k from by omega])
   go_wp2_with (at_builtin; refine OwnB.appendAt HB.out _ _ rfl _ _ rfl rfl rfl ?_ ?_ ?_ hBr ?_ ?_)
   all_goals first | omega | exact (World.size_alloc ..).symm | skip
   intro v2 w2 h4 h5 h5k
   have HC := LH (OwnB.conv h4)
   clear h4 h5k
   go_wp2_with fail
   simp only [HC.out, Result.andThen]
   go_wp2
   go_ret
   exact ⟨by rw [HE.out]; rfl, hb.trans h5⟩
theorem refQuote_any (s : ByteArray) (w : World) (hs : s.size ≤ 900000000000) :
  Calls Tryd.prog 102 #[.string s] w (StrRet (str (quoteL s.data.toList)) w) := by
 go_enter Tryd.func102, Tryd.ntmps102
 go_wp2
 go_loopw [3, 4] (fun v i wr => QRel s w v i wr) (fun _ i _ => s.size - (intOf i).toNat)
 case atStart => exact ⟨0, by omega, rfl, OwnB.lit1 w (Nat.le_refl _) 34, (Below.refl _ _).alloc (Nat.le_refl _) _⟩
 case round =>
  obtain ⟨k, hk, rfl, hob, hb⟩ := hrel
  have HB := LH hob; clear hob
  have hBr := hb.size
  have hlq : (quoteTo s.data.toList k).length ≤ 1800000000001 := by have := quoteTo_length s.data.toList k; omega
  by_cases hlt : k < s.size
  ·have hbx := u8_lt s[k]
   have HG := LH (getD_byte s k hlt)
   have hcases : (((s[k].toNat : Int) == 34) = true ∧ qesc s[k] = [92, s[k]]) ∨ (((s[k].toNat : Int) == 34) = false ∧ ((s[k].toNat : Int) == 92) = true ∧ qesc s[k] = [92, s[k]]) ∨ (((s[k].toNat : Int) == 34) = false ∧ ((s[k].toNat : Int) == 92) = false ∧ qesc s[k] = [s[k]]) := by
    rw [show ((s[k].toNat : Int) == 34) = (s[k] == 34) from byte_beq _ 34, show ((s[k].toNat : Int) == 92) = (s[k] == 92) from byte_beq _ 92]
    unfold qesc
    by_cases h3 : s[k] = 34 <;> by_cases h4 : s[k] = 92 <;> simp [h3, h4]
   rcases hcases with ⟨g1, g2⟩ | ⟨g1, g3, g2⟩ | ⟨g1, g3, g2⟩
   ·have HX := LH g2; clear g2
    go_wp2_with (at_builtin; refine OwnB.appendAt HB.out _ _ rfl _ _ rfl rfl rfl ?_ ?_ ?_ hBr ?_ ?_)
    all_goals first | omega | exact (World.size_alloc ..).symm | skip
    intro v' w' h2 h3 h3k
    have H2 := LH h2; clear h2 h3k
    have hbB := hb.trans h3
    go_wp2_with (at_builtin; refine OwnB.appendAt H2.out _ _ rfl _ _ rfl rfl rfl ?_ ?_ ?_ hbB.size ?_ ?_)
    all_goals first | omega | exact (World.size_alloc ..).symm | (rw [List.length_append, List.length_singleton]; omega) | skip
    intro v2 w2 h4 h5 h5k
    have H4 := LH h4
    clear h4 h5k
    go_wp2
    go_roundw
    case rel =>
     refine ⟨k + 1, by omega, by go_num, ?_, hbB.trans h5⟩
     rw [quoteTo, HG.out, HX.out]
     simpa [ofNat_byte] using H4.out
    case measure => simp [intOf]; omega
   ·have HX := LH g2; clear g2
    go_wp2_with (at_builtin; refine OwnB.appendAt HB.out _ _ rfl _ _ rfl rfl rfl ?_ ?_ ?_ hBr ?_ ?_)
    all_goals first | omega | exact (World.size_alloc ..).symm | skip
    intro v' w' h2 h3 h3k
    have H2 := LH h2; clear h2 h3k
    have hbB := hb.trans h3
    go_wp2_with (at_builtin; refine OwnB.appendAt H2.out _ _ rfl _ _ rfl rfl rfl ?_ ?_ ?_ hbB.size ?_ ?_)
    all_goals first | omega | exact (World.size_alloc ..).symm | (rw [List.length_append, List.length_singleton]; omega) | skip
    intro v2 w2 h4 h5 h5k
    have H4 := LH h4
    clear h4 h5k
    go_wp2
    go_roundw
    case rel =>
     refine ⟨k + 1, by omega, by go_num, ?_, hbB.trans h5⟩
     rw [quoteTo, HG.out, HX.out]
     simpa [ofNat_byte] using H4.out
    case measure => simp [intOf]; omega
   ·have HX := LH g2; clear g2
    go_wp2_with (at_builtin; refine OwnB.appendAt HB.out _ _ rfl _ _ rfl rfl rfl ?_ ?_ ?_ hBr ?_ ?_)
    all_goals first | omega | exact (World.size_alloc ..).symm | skip
    intro v2 w2 h4 h5 h5k
    have H4 := LH h4
    clear h4 h5k
    go_wp2
    go_roundw
    case rel =>
     refine ⟨k + 1, by omega, by go_num, ?_, hb.trans h5⟩
     rw [quoteTo, HG.out, HX.out]
     simpa [ofNat_byte] using H4.out
    case measure => simp [intOf]; omega
  ·have HE := LH (show quoteL s.data.toList = quoteTo s.data.toList k ++ [34] from by unfold quoteL; rw [← ba_size, show s.size = k from by omega])
   go_wp2_with (at_builtin; refine OwnB.appendAt HB.out _ _ rfl _ _ rfl rfl rfl ?_ ?_ ?_ hBr ?_ ?_)
   all_goals first | omega | exact (World.size_alloc ..).symm | skip
   intro v2 w2 h4 h5 h5k
   have HC := LH (OwnB.conv h4)
   clear h4 h5k
   go_wp2_with fail
   simp only [HC.out, Result.andThen]
   go_wp2
   go_ret
   exact ⟨by rw [HE.out]; rfl, hb.trans h5⟩
end Go.Proofs.YthcldpminmhgkaaDoor
end
