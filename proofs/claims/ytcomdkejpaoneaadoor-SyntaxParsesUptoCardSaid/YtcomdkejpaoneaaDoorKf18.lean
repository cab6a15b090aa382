/- Merged for a claim by shake.py: Ud -/
import Derived.Test.YtcomdkejpaoneaaDoorKfA
import Derived.Test.YtcomdkejpaoneaaDoorKf17
section
namespace Go.Proofs.YtcomdkejpaoneaaDoor
open Go.RowKit
set_option maxRecDepth 100000
set_option maxHeartbeats 4000000
set_option linter.unusedSimpArgs false
set_option linter.unusedVariables false
def patOk : List UInt8 → Prop
 | [] => True
 | [c] => c ≠ 92
 | c :: d :: r => if c = 92 then patOk r else patOk (d :: r)
def PatRet (t : Nd) (w : World) (e : Ending) (w' : World) : Prop := Below w.heap.size w w' ∧ ∃ (kd : Int) (f tx : List UInt8), t = ndLeaf kd f tx 0 ∧ e = .returned (nvLeaf kd f tx 0).val
theorem ownB_frm {w : World} {B : Nat} {v : Value} {l : List UInt8} (h : OwnB w B v l) : ∃ A cp, v = .slice A l.length cp := by
 rcases h.2 with ⟨rfl, h0⟩ | ⟨g, cap, cur, rfl, _⟩
 ·exact ⟨none, 0, by rw [h0]⟩
 ·exact ⟨_, _, rfl⟩
def PatRel (f : List UInt8) (s : ByteArray) (w1 : World) (lv iv : Value) (wr : World) : Prop :=
 ∃ (i : Nat) (L : List UInt8), i ≤ s.size ∧ iv = .int .i64 (i : Int) ∧ OwnB wr w1.heap.size lv L ∧ L.length ≤ i ∧ patF f s.data.toList [] s.data.toList = patF f s.data.toList L (s.data.toList.drop i) ∧ patOk (s.data.toList.drop i) ∧ Below w1.heap.size w1 wr
theorem u8_eq (c : UInt8) (k : Nat) (hk : k < 256) : ((c.toNat : Int) == (k : Int)) = decide (c = UInt8.ofNat k) := by
 by_cases h : c = UInt8.ofNat k
 ·subst h
  rw [decide_eq_true rfl]
  have : (UInt8.ofNat k).toNat = k := by rw [UInt8.toNat_ofNat']; omega
  rw [this]; simp
 ·rw [decide_eq_false h]
  have : c.toNat ≠ k := fun e => h (by rw [← e]; simp)
  simpa using fun e : (c.toNat : Int) = (k : Int) => this (by omega)
theorem ppattern_any (f : List UInt8) (s : ByteArray) (w : World) (hs : s.size ≤ 10000000) (hok : patOk s.data.toList) :
  Calls Tryd.prog 106 #[.string (str f), .string s] w (PatRet (patN f s.data.toList) w) := by
 by_cases hst : s.data.toList = [42]
 ·have e1 : (s.toList == [42]) = true := by rw [ba_toList, hst]; rfl
  have HR := LH (show patN f s.data.toList = ndLeaf 7 f [] 0 from by unfold patN; rw [if_pos hst])
  clear hst hok
  go_enter Tryd.func106, Tryd.ntmps106
  go_wp2
  refine bodyPost_ret (v := (nvLeaf 7 f [] 0).val) ?_ rfl ?_
  ·simp [results, Tryd.results106, go_sem, World.cell?_alloc_new, NV.val, nvLeaf, bd0, str]
  ·exact ⟨(Below.refl _ _).alloc (Nat.le_refl _) _, _, _, _, HR.out, rfl⟩
 have e1 : (s.toList == [42]) = false := by rw [ba_toList]; simpa using hst
 have HPN := LH (show patN f s.data.toList = patF f s.data.toList [] s.data.toList from by unfold patN; rw [if_neg hst])
 have HOK := LH hok
 have HSL := LH (ba_size s)
 have HSTR := LH (show str s.data.toList = s from rfl)
 clear hst hok
 have HB1 := LH (show Below w.heap.size w (w.alloc zO) from (Below.refl _ _).alloc (Nat.le_refl _) _)
 have HZ := LH (Blk.new w 36 zA)
 go_enter Tryd.func106, Tryd.ntmps106
 go_upto_region 3 with (fail)
 generalize w.alloc zO = w1 at *
 have HO1 := LH (OwnB.lit0 w1 (Nat.le_refl _))
 have HB0 := LH (show Below w1.heap.size w1 (w1.alloc (.cells #[] 5)) from (Below.refl _ _).alloc (Nat.le_refl _) _)
 go_wp2
 go_loopw [5, 6] (fun lv iv wr => PatRel f s w1 lv iv wr) (fun _ iv _ => s.size - (intOf iv).toNat)
 case atStart => exact ⟨0, [], Nat.zero_le _, rfl, HO1.out, Nat.zero_le _, rfl, HOK.out, HB0.out⟩
 case round =>
  obtain ⟨i, L, hi, rfl, ho, hLi, hp, hpo, hb⟩ := hrel
  have HO := LH ho; have HP := LH hp; have HB := LH hb; have HPO := LH hpo
  have HBW := LH (HB1.out.trans (hb.mono HB1.out.size))
  have hsz : w1.heap.size ≤ wr.heap.size := hb.size
  have hzz := HZ.out.below hb HZ.out.lt
  have hzc := fun j => hzz.cell j
  obtain ⟨z0, z1, z2, z3, z4, z5, z6, z7, z8, z9, z10, z11, fz0, fz1, fz2, fz3, fz4, fz5, fz6, fz7, fz8, fz9, fz10, fz11, lz⟩ := blk12 hzz
  have hwk : IntKind.i64.wrap ((i : Int) + 1) = (i : Int) + 1 := IntWalk.i64_in _ (by omega)
  obtain ⟨A5, c5, rfl⟩ := ownB_frm ho
  clear ho hp hb hpo hzz hzc
  by_cases hlt : i < s.size
  ·skip
   have hbx := u8_lt s[i]
   have HD := LH (show s.data.toList.drop i = s[i] :: s.data.toList.drop (i + 1) from by rw [List.drop_eq_getElem_cons (show i < s.data.toList.length from by rw [← ba_size]; exact hlt)]; rfl)
   have u63 := u8_eq s[i] 63 (by omega)
   have u42 := u8_eq s[i] 42 (by omega)
   have u92 := u8_eq s[i] 92 (by omega)
   have HPD := LH (show patF f s.data.toList [] s.data.toList = patF f s.data.toList L (s[i] :: s.data.toList.drop (i + 1)) from by rw [HP.out, HD.out])
   have HPOD := LH (show patOk (s[i] :: s.data.toList.drop (i + 1)) from by rw [← HD.out]; exact HPO.out)
   have HU := LH (And.intro u63 (And.intro u42 u92))
   clear u63 u42 u92
   have hnil : (s.data.toList.drop (i + 1) = [] ∧ ¬ i + 1 < s.size) ∨ (∃ d r, i + 1 < s.size ∧ s.data.toList.drop (i + 1) = d :: r) := by
    by_cases h : i + 1 < s.size
    ·right
     have h2 : i + 1 < s.data.toList.length := by rw [← ba_size]; exact h
     exact ⟨_, _, h, List.drop_eq_getElem_cons h2⟩
    ·left
     exact ⟨List.drop_eq_nil_of_le (by rw [← ba_size]; omega), h⟩
   have HNIL := LH hnil
   clear hnil
   by_cases h63 : s[i] = 63
   ·have e63 : ((s[i].toNat : Int) == 63) = true := by have := HU.out.1; rw [h63] at this ⊢; rfl
    have HR := LH (show patN f s.data.toList = ndLeaf 4 f s.data.toList 0 from by
     rw [HPN.out, HPD.out]
     rcases HNIL.out with ⟨h, _⟩ | ⟨d, r, _, h⟩
     ·rw [h, patF, if_neg (by rw [h63]; decide)]
     ·rw [h, patF, if_pos (.inl h63)])
    clear h63
    go_wp2
    refine bodyPost_ret (v := (nvLeaf 4 f s.data.toList 0).val) ?_ rfl ?_
    ·simp [results, Tryd.results106, go_sem, NV.val, nvLeaf, bd0, str, lz, fz0, fz1, fz2, fz3, fz4, fz5, fz6, fz7, fz8, fz9, fz10, fz11, z0, z1, z2, z3, z4, z5, z6, z7, z8, z9, z10, z11]
    ·refine ⟨?_, _, _, _, HR.out, rfl⟩
     repeat (first | with_reducible exact HBW.out | with_reducible refine Below.setCell ?_ (by show w.heap.size ≤ w.heap.size; exact Nat.le_refl _) _)
   have e63 : ((s[i].toNat : Int) == 63) = false := HU.out.1.trans (decide_eq_false h63)
   by_cases h42 : s[i] = 42
   ·have e42 : ((s[i].toNat : Int) == 42) = true := by rw [h42]; rfl
    rcases HNIL.out with ⟨hd, hn⟩ | ⟨d, r, hn, hd⟩
    ·have HR := LH (show patN f s.data.toList = ndLeaf 3 f L 0 from by rw [HPN.out, HPD.out, hd, patF, if_pos h42])
     have HC := LH HO.out.conv
     have hcv := fun (W : World) (hW : OwnB W w1.heap.size (.slice A5 L.length c5) L) => hW.conv
     have hcv2 := HC.out
     clear h42 h63 hd hcv
     have e3 : decide ((i : Int) + 1 < (s.size : Int)) = false := by simp; omega
     go_wp2
     refine bodyPost_ret (v := (nvLeaf 3 f L 0).val) ?_ rfl ?_
     ·simp [results, Tryd.results106, go_sem, NV.val, nvLeaf, bd0, str, lz, fz0, fz1, fz2, fz3, fz4, fz5, fz6, fz7, fz8, fz9, fz10, fz11, z0, z1, z2, z3, z4, z5, z6, z7, z8, z9, z10, z11]
     ·refine ⟨?_, _, _, _, HR.out, rfl⟩
      repeat (first | with_reducible exact HBW.out | with_reducible refine Below.setCell ?_ (by show w.heap.size ≤ w.heap.size; exact Nat.le_refl _) _)
    ·have HR := LH (show patN f s.data.toList = ndLeaf 4 f s.data.toList 0 from by rw [HPN.out, HPD.out, hd, patF, if_pos (.inr h42)])
     clear h42 h63 hd
     go_wp2
     refine bodyPost_ret (v := (nvLeaf 4 f s.data.toList 0).val) ?_ rfl ?_
     ·simp [results, Tryd.results106, go_sem, NV.val, nvLeaf, bd0, str, lz, fz0, fz1, fz2, fz3, fz4, fz5, fz6, fz7, fz8, fz9, fz10, fz11, z0, z1, z2, z3, z4, z5, z6, z7, z8, z9, z10, z11]
     ·refine ⟨?_, _, _, _, HR.out, rfl⟩
      repeat (first | with_reducible exact HBW.out | with_reducible refine Below.setCell ?_ (by show w.heap.size ≤ w.heap.size; exact Nat.le_refl _) _)
   have e42 : ((s[i].toNat : Int) == 42) = false := HU.out.2.1.trans (decide_eq_false h42)
   by_cases h92 : s[i] = 92
   ·have e92 : ((s[i].toNat : Int) == 92) = true := by rw [h92]; rfl
    rcases HNIL.out with ⟨hd, hn⟩ | ⟨d, r, hn, hd⟩
    ·exact absurd h92 (by have h := HPOD.out; rw [hd] at h; exact h)
    ·have hdv : d = s[i + 1] ∧ r = s.data.toList.drop (i + 2) := by
      have h := hd
      rw [List.drop_eq_getElem_cons (show i + 1 < s.data.toList.length from by rw [← ba_size]; exact hn)] at h
      injection h with h1 h2
      exact ⟨h1.symm, h2.symm⟩
     have HN2 := LH (show patF f s.data.toList [] s.data.toList = patF f s.data.toList (L ++ [s[i + 1]]) (s.data.toList.drop (i + 2)) from by
      rw [HPD.out, hd, patF, if_neg (by rw [not_or]; exact ⟨h63, h42⟩), if_pos h92, ← hdv.1, ← hdv.2])
     have HK2 := LH (show patOk (s.data.toList.drop (i + 2)) from by
      have h := HPOD.out
      rw [hd, patOk, if_pos h92] at h
      rw [← hdv.2]; exact h)
     have hbx2 := u8_lt s[i + 1]
     have hwk2 : IntKind.i64.wrap ((i : Int) + 1 + 1) = (i : Int) + 1 + 1 := IntWalk.i64_in _ (by omega)
     clear h92 h63 h42 hd hdv
     go_wp2_with (at_builtin; refine OwnB.append HO.out s[i + 1].toNat (by omega) (by omega) rfl _ _ rfl rfl rfl hsz ?_ ?_)
     ·omega
     ·intro v' w' h2 h3
      have H2 := LH h2; have HB3 := LH (HB.out.trans h3)
      clear h2 h3
      go_wp2
      go_roundw
      case rel => exact ⟨i + 2, L ++ [s[i + 1]], by omega, by go_num, by have h := H2.out; simpa using h, by rw [List.length_append, List.length_singleton]; omega, HN2.out, HK2.out, HB3.out⟩
      case measure => simp [intOf]; omega
   have e92 : ((s[i].toNat : Int) == 92) = false := HU.out.2.2.trans (decide_eq_false h92)
   have HN2 := LH (show patF f s.data.toList [] s.data.toList = patF f s.data.toList (L ++ [s[i]]) (s.data.toList.drop (i + 1)) from by
    rw [HPD.out]
    rcases HNIL.out with ⟨hd, _⟩ | ⟨d, r, _, hd⟩
    ·rw [hd]; unfold patF; rw [if_neg h42]
    ·rw [hd, patF, if_neg (by rw [not_or]; exact ⟨h63, h42⟩), if_neg h92])
   have HK2 := LH (show patOk (s.data.toList.drop (i + 1)) from by
    have h := HPOD.out
    rcases HNIL.out with ⟨hd, _⟩ | ⟨d, r, _, hd⟩
    ·rw [hd]; trivial
    ·rw [hd, patOk, if_neg h92] at h
     rw [hd]; exact h)
   clear h92 h63 h42
   go_wp2_with (at_builtin; refine OwnB.append HO.out s[i].toNat (by omega) (by omega) rfl _ _ rfl rfl rfl hsz ?_ ?_)
   ·omega
   ·intro v' w' h2 h3
    have H2 := LH h2; have HB3 := LH (HB.out.trans h3)
    clear h2 h3
    go_wp2
    go_roundw
    case rel => exact ⟨i + 1, L ++ [s[i]], by omega, by go_num, by have h := H2.out; simpa using h, by rw [List.length_append, List.length_singleton]; omega, HN2.out, HK2.out, HB3.out⟩
    case measure => simp [intOf]; omega
  ·have HR := LH (show patN f s.data.toList = ndLeaf 4 f s.data.toList 0 from by rw [HPN.out, HP.out, List.drop_eq_nil_of_le (by rw [← ba_size]; omega), patF])
   go_wp2
   refine bodyPost_ret (v := (nvLeaf 4 f s.data.toList 0).val) ?_ rfl ?_
   ·simp [results, Tryd.results106, go_sem, NV.val, nvLeaf, bd0, str, lz, fz0, fz1, fz2, fz3, fz4, fz5, fz6, fz7, fz8, fz9, fz10, fz11, z0, z1, z2, z3, z4, z5, z6, z7, z8, z9, z10, z11]
   ·refine ⟨?_, _, _, _, HR.out, rfl⟩
    repeat (first | with_reducible exact HBW.out | with_reducible refine Below.setCell ?_ (by show w.heap.size ≤ w.heap.size; exact Nat.le_refl _) _)
end Go.Proofs.YtcomdkejpaoneaaDoor
end
