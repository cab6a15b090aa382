/- Merged for a claim by shake.py: To Ta -/
import Derived.Test.YtcomdkejpaoneaaDoorKfA
import Derived.Test.YtcomdkejpaoneaaDoorKf13
import Derived.Test.YtcomdkejpaoneaaDoorKf2
import Derived.Test.YtcomdkejpaoneaaDoorKf27
import Derived.Test.YtcomdkejpaoneaaDoorKf32
section
namespace Go.Proofs.YtcomdkejpaoneaaDoor
open Go.RowKit
set_option maxRecDepth 100000
set_option maxHeartbeats 8000000
set_option linter.unusedSimpArgs false
set_option linter.unusedVariables false
theorem cntS_le (l : List Lt) : cntS l ≤ l.length := by
 induction l with
 | nil => exact Nat.le_refl _
 | cons t l ih => rw [cntS, List.length_cons]; split <;> omega
theorem sfxS_le (l : List Lt) : sfxS l ≤ l.length := by
 cases l with
 | nil => exact Nat.le_refl _
 | cons t l =>
  rw [sfxS]
  split
  ·have := cntS_le l; rw [List.length_cons]; omega
  ·exact cntS_le _
theorem sfxD_le (l : List Lt) (i : Nat) : sfxS (l.drop i) ≤ l.length := Nat.le_trans (sfxS_le _) (by rw [List.length_drop]; omega)
theorem at_int {w : World} {B : Nat} {A : Option Addr} {n cap : Nat} {l : List Int} (h : RdL folS w B (.slice A n cap) l) {k : Nat} (hk : k < l.length) :
  ∃ a, A = some a ∧ (a.add k).block < B ∧ w.cell? (a.add k) = some (.int .i64 l[k]) := by
 obtain ⟨a, rfl, hb, h0, h⟩ := h.at2 folOk hk
 have e : k * folS.size = k := Nat.mul_one k
 rw [e] at hb h0
 exact ⟨a, rfl, hb, h0 _ rfl⟩
theorem ifmax3 (a d n c : Nat) : (if (a : Int) < (d : Int) + (n : Int) + (c : Int) then (d : Int) + (n : Int) + (c : Int) else (a : Int)) = ((max a (d + n + c) : Nat) : Int) := by
 split <;> omega
def KK (i : Nat) : Nat := i * 300000010
theorem KK_succ (i : Nat) : KK i + 300000010 ≤ KK (i + 1) := by unfold KK; rw [Nat.add_mul]; omega
theorem KK_top {i : Nat} (h : i ≤ 100000010) : KK i ≤ 30000004000000100 := Nat.mul_le_mul_right _ h
theorem KK_le {i j : Nat} (h : i ≤ j) : KK i ≤ KK j := Nat.mul_le_mul_right _ h
def NestRel (ts : List Lt) (ends : Nat → Nat) (M : Nat) (w w1 : World) (mv nv dv wv iv : Value) (wr : World) : Prop :=
 ∃ (i : Nat) (s : NS), i ≤ ts.length + 5 ∧ iv = .int .i64 (i : Int) ∧ mv = .int .i64 (s.most : Int) ∧ nv = .int .i64 (s.nots : Int) ∧ dv = .int .i64 (s.depth : Int) ∧ OwnL folS wr w1.heap.size wv (stL s.weights) ∧ NestRun ts ends i s M ∧
  s.nots ≤ i ∧ s.depth ≤ KK i ∧ s.most ≤ KK (i + 1) ∧ s.weights.length ≤ i ∧ Below w1.heap.size w1 wr
theorem rnest_any (x : Value) (ts : List Lt) (w : World) (hx : RdL ltS w w.heap.size x ts) (hl : ts.length ≤ 100000000) (st' : List Nat) (ends : Nat → Nat) (h0 : closeL 0 [] (fun _ => 0) ts = some (st', ends)) (M : Nat) (hM : NestRun ts ends 0 ns0 M) :
  Calls Tryd.prog 32 #[x] w fun e w' => e = .returned (.int .i64 (M : Int)) ∧ Below w.heap.size w w' := by
 have HCL := LH (rcloses_any x ts w hx (by omega) st' ends h0)
 have HE := LH (closeL_bound (N := ts.length) h0 (fun _ => Nat.zero_le _) (by omega))
 obtain ⟨A, cap, rfl, h1, h2⟩ := hx.open_
 have HX := LH hx
 have HM := LH hM
 clear hx h0 hM
 go_enter Tryd.func32, Tryd.ntmps32
 go_wp2_with fail
 refine HCL.out.mono ?_
 rintro e w1 ⟨hb1, sl, rfl, ho1⟩
 obtain ⟨A3, cap3, rfl, hc3, hm3⟩ := ho1.form
 have HO3 := LH (show RdL folS w1 w1.heap.size (.slice A3 ts.length cap3) (outL ends ts.length) from by have h := RdL.of_own ho1; rw [outL_len] at h; exact h)
 rw [outL_len] at hc3 ⊢
 have HB1 := LH hb1
 have HX1 := LH ((HX.out.below hb1).more hb1.size)
 have HOW := LH (OwnL.lit0 folS w1 (Nat.le_refl _))
 have HBW := LH (show Below w1.heap.size w1 (w1.alloc (.cells #[] 3)) from (Below.refl _ _).alloc (Nat.le_refl _) _)
 have hs1 : w.heap.size ≤ w1.heap.size := hb1.size
 clear hb1 ho1 HX
 go_wp2
 go_loopw [4, 5, 6, 7, 8] (fun mv nv dv wv iv wr => NestRel ts ends M w w1 mv nv dv wv iv wr) (fun _ _ _ _ iv _ => ts.length - (intOf iv).toNat)
 case atStart => exact ⟨0, ns0, by omega, rfl, rfl, rfl, rfl, HOW.out, HM.out, Nat.le_refl _, Nat.zero_le _, Nat.zero_le _, Nat.le_refl _, HBW.out⟩
 case round =>
  obtain ⟨i, ⟨sm, sn, sd, sw⟩, hi, rfl, rfl, rfl, rfl, ho, hr, hb1, hb2, hb3, hb4, hb⟩ := hrel
  simp only [] at ho hb1 hb2 hb3 hb4 ⊢
  have HB := LH hb; have HR := LH hr
  have hsz : w1.heap.size ≤ wr.heap.size := hb.size
  have hlen : (stL sw).length = sw.length := by unfold stL; rw [List.length_map]
  obtain ⟨A7, cap7, rfl, hcp, hcm⟩ := ho.form
  rw [hlen] at hcp ho ⊢
  have HO := LH ho
  have HLEN := LH hlen
  have HXr := LH (HX1.out.below hb)
  have HER := LH (HO3.out.below hb)
  have hwk : IntKind.i64.wrap ((i : Int) + 1) = (i : Int) + 1 := IntWalk.i64_in _ (by omega)
  clear hr ho hb hlen
  by_cases hlt : i < ts.length
  ·have hk1 := KK_succ i
   have hk2 := KK_succ (i + 1)
   have ht1 := KK_top (i := i) (by omega)
   have ht2 := KK_top (i := i + 1) (by omega)
   have hbd : sd ≤ 30000004000000100 := by omega
   have hbm : sm ≤ 30000004000000100 := by omega
   obtain ⟨a, rfl, hab, q0, -, -, -, -⟩ := at_lt HXr.out hlt
   have HST := LH (show ∃ i' s', nestStep ts ends i ts[i] ⟨sm, sn, sd, sw⟩ = some (i', s') ∧ NestRun ts ends i' s' M from by
    rcases HR.out with ⟨h⟩ | ⟨h, h2, h3⟩
    ·omega
    ·rw [List.getElem?_eq_getElem hlt] at h
     injection h with h
     subst h
     exact ⟨_, _, h2, h3⟩)
   have HSF := LH (sfxD_le ts)
   have HSU := LH (fun (j : Nat) (hj : j ≤ 1000000000) => rsuf_all (.slice (some a) ts.length cap) ts j wr (HXr.out.more hsz) hj (by omega))
   have HK := LH (And.intro hk1 (And.intro hk2 (And.intro ht1 ht2)))
   generalize htk : ts[i] = t at *
   obtain ⟨tk, tx, tn, ta, te⟩ := t
   simp only [] at q0
   clear htk hk1 hk2 ht1 ht2
   by_cases hk : tk = 6
   ·skip
    have e6 : ((tk : Int) == 6) = true := by rw [hk]; rfl
    have HN := LH (show NestRun ts ends (i + 1) ⟨sm, sn + 1, sd, sw⟩ M from by have h := HST.out; obtain ⟨i', s', h, h2⟩ := h; unfold nestStep at h; rw [if_pos (show tk = 6 from hk)] at h; injection h with h; injection h with h3 h4; subst h3 h4; exact h2)
    have b1 : sn + 1 ≤ i + 1 := by omega
    have b2 : sd ≤ KK (i + 1) := by have h := HK.out; have h3 := KK_le (i := i + 1) (j := i + 1) (by omega); omega
    have b3 : sm ≤ KK (i + 1 + 1) := by have h := HK.out; have h3 := KK_le (i := i + 1 + 1) (j := i + 1 + 1) (by omega); omega
    have b4 : sw.length ≤ i + 1 := by omega
    have HBB := LH (And.intro b1 (And.intro b2 (And.intro b3 b4))); clear b1 b2 b3 b4
    clear hk
    go_wp2
    go_roundw
    case rel => exact ⟨i + 1, ⟨sm, sn + 1, sd, sw⟩, by omega, by go_num, rfl, by go_num, rfl, HO.out, HN.out, HBB.out.1, HBB.out.2.1, HBB.out.2.2.1, HBB.out.2.2.2, HB.out⟩
    case measure => simp [intOf]; omega
   have n6 := hk; clear hk
   by_cases hk : tk = 8
   ·skip
    have e6 : ((tk : Int) == 6) = false := by rw [hk]; rfl
    have e8 : ((tk : Int) == 8) = true := by rw [hk]; rfl
    obtain ⟨sx, hsx⟩ : ∃ sx, sx = sfxS (ts.drop (ends i + 1)) := ⟨_, rfl⟩
    have hsb : sx ≤ 100000000 := by have h := HSF.out (ends i + 1); omega
    have HSX := LH hsx
    have HN := LH (show NestRun ts ends (i + 1) ⟨sm, 0, sd + (1 + sn + sx), sw ++ [1 + sn + sx]⟩ M from by have h := HST.out; obtain ⟨i', s', h, h2⟩ := h; unfold nestStep at h; rw [if_neg (show ¬ tk = 6 from n6), if_pos (show tk = 8 from hk), ← hsx] at h; injection h with h; injection h with h3 h4; subst h3 h4; exact h2)
    have b1 : 0 ≤ i + 1 := by omega
    have b2 : sd + (1 + sn + sx) ≤ KK (i + 1) := by have h := HK.out; have h3 := KK_le (i := i + 1) (j := i + 1) (by omega); omega
    have b3 : sm ≤ KK (i + 1 + 1) := by have h := HK.out; have h3 := KK_le (i := i + 1 + 1) (j := i + 1 + 1) (by omega); omega
    have b4 : (sw ++ [1 + sn + sx]).length ≤ i + 1 := by rw [List.length_append, List.length_singleton]; omega
    have HBB := LH (And.intro b1 (And.intro b2 (And.intro b3 b4))); clear b1 b2 b3 b4
    have heb : ends i ≤ 100000000 := by have h := HE.out i; omega
    obtain ⟨a3, rfl, hab3, hc3v⟩ := at_int HER.out (k := i) (by rw [outL_len]; exact hlt)
    have hov : (outL ends ts.length)[i]'(by rw [outL_len]; exact hlt) = (ends i : Int) := by unfold outL; simp
    rw [hov] at hc3v
    have HC5 := LH (show Calls Tryd.prog 53 #[.slice (some a) ts.length cap, .int .i64 ((ends i : Int) + 1)] wr fun e w' => e = .returned (.int .i64 (sx : Int)) ∧ w' = wr from by rw [hsx]; exact HSU.out (ends i + 1) (by omega))
    clear hk n6 hsx hov HSX HSU
    generalize ends i = ei at *
    go_wp2_with fail
    refine HC5.out.mono ?_
    rintro e w5 ⟨rfl, rfl⟩
    go_wp2_with (at_builtin; refine OwnL.appendK folOk HO.out (((1 + sn + sx : Nat)) : Int) w5.heap.size rfl _ _ rfl rfl rfl _ (by show _ = #[Value.int .i64 (((1 + sn + sx : Nat)) : Int)]; simp) rfl hsz (by rw [HLEN.out]; omega) ?_)
    intro v7 w7 ho7 hb7 hk7
    have HO7 := LH ho7
    have HB7 := LH (HB.out.trans (hb7.mono (Nat.le_refl _)))
    clear ho7 hb7 hk7
    go_wp2
    go_roundw
    case rel => exact ⟨i + 1, ⟨sm, 0, sd + (1 + sn + sx), sw ++ [1 + sn + sx]⟩, by omega, by go_num, rfl, rfl, by go_num, by unfold stL; rw [List.map_append]; exact HO7.out, HN.out, HBB.out.1, HBB.out.2.1, HBB.out.2.2.1, HBB.out.2.2.2, HB7.out⟩
    case measure => simp [intOf]; omega
   have n8 := hk; clear hk
   by_cases hk : tk = 9
   ·skip
    have e6 : ((tk : Int) == 6) = false := by rw [hk]; rfl
    have e8 : ((tk : Int) == 8) = false := by rw [hk]; rfl
    have e9 : ((tk : Int) == 9) = true := by rw [hk]; rfl
    rcases List.eq_nil_or_concat sw with rfl | ⟨s0, wx, hs0⟩
    ·have h := HST.out
     obtain ⟨i', s', h, h2⟩ := h
     unfold nestStep at h
     rw [if_neg (show ¬ tk = 6 from n6), if_neg (show ¬ tk = 8 from n8), if_pos (show tk = 9 from hk)] at h
     cases h
    rw [List.concat_eq_append] at hs0
    subst hs0
    have hwn : wx ≤ sd ∧ NestRun ts ends (i + 1) ⟨sm, sn, sd - wx, s0⟩ M := by
     have h := HST.out
     obtain ⟨i', s', h, h2⟩ := h
     unfold nestStep at h
     rw [if_neg (show ¬ tk = 6 from n6), if_neg (show ¬ tk = 8 from n8), if_pos (show tk = 9 from hk)] at h
     simp only [List.getLast?_concat, List.dropLast_concat] at h
     by_cases hw : wx ≤ sd
     ·rw [if_pos hw] at h
      injection h with h; injection h with h3 h4; subst h3 h4; exact ⟨hw, h2⟩
     ·rw [if_neg hw] at h; cases h
    have hws := hwn.1
    have HN := LH hwn.2
    clear hwn
    have hln : (s0 ++ [wx]).length = s0.length + 1 := by simp
    rw [hln] at hcp hb4 ⊢
    have b1 : sn ≤ i + 1 := by omega
    have b2 : (sd - wx) ≤ KK (i + 1) := by have h := HK.out; have h3 := KK_le (i := i + 1) (j := i + 1) (by omega); omega
    have b3 : sm ≤ KK (i + 1 + 1) := by have h := HK.out; have h3 := KK_le (i := i + 1 + 1) (j := i + 1 + 1) (by omega); omega
    have b4 : s0.length ≤ i + 1 := by omega
    have HBB := LH (And.intro b1 (And.intro b2 (And.intro b3 b4))); clear b1 b2 b3 b4
    have HOS := LH (show OwnL folS wr w1.heap.size (.slice A7 (s0.length + 1) cap7) (stL s0 ++ [(wx : Int)]) from by have h := HO.out; rw [hln] at h; unfold stL at h ⊢; rw [List.map_append] at h; exact h)
    obtain ⟨g2, rfl, hg2⟩ := OwnL.at_ HOS.out folOk (k := s0.length) (by simp [stL])
    have hc2 := hg2 0 (.int .i64 (wx : Int)) (by decide) (by simp [stL, folS])
    have e1 : s0.length * folS.size + 0 = s0.length := by show s0.length * 1 + 0 = _; omega
    rw [e1] at hc2
    have HP := LH (show OwnL folS wr w1.heap.size (.slice (some ⟨g2, 0, none⟩) s0.length cap7) (stL s0) from by
     have h := HOS.out.pop folOk
     have hsl0 : (stL s0).length = s0.length := by unfold stL; rw [List.length_map]
     rw [hsl0] at h; exact h)
    have hsub : ((sd - wx : Nat) : Int) = (sd : Int) - (wx : Int) := by omega
    have HSUB := LH hsub
    clear hk n6 n8 hg2 e1 hln hsub
    go_wp2
    go_roundw
    case rel => exact ⟨i + 1, ⟨sm, sn, sd - wx, s0⟩, by omega, by go_num, rfl, rfl, by rw [HSUB.out], HP.out, HN.out, HBB.out.1, HBB.out.2.1, HBB.out.2.2.1, HBB.out.2.2.2, HB.out⟩
    case measure => simp [intOf]; omega
   have n9 := hk; clear hk
   by_cases hk : tk = 10
   ·skip
    have e6 : ((tk : Int) == 6) = false := by rw [hk]; rfl
    have e8 : ((tk : Int) == 8) = false := by rw [hk]; rfl
    have e9 : ((tk : Int) == 9) = false := by rw [hk]; rfl
    have e10 : ((tk : Int) == 10) = true := by rw [hk]; rfl
    obtain ⟨sx, hsx⟩ : ∃ sx, sx = sfxS (ts.drop (i + 5)) := ⟨_, rfl⟩
    have hsb : sx ≤ 100000000 := by have h := HSF.out (i + 5); omega
    have HN := LH (show NestRun ts ends (i + 5) ⟨max sm (sd + sn + sx), 0, sd, sw⟩ M from by have h := HST.out; obtain ⟨i', s', h, h2⟩ := h; unfold nestStep at h; rw [if_neg (show ¬ tk = 6 from n6), if_neg (show ¬ tk = 8 from n8), if_neg (show ¬ tk = 9 from n9), if_pos (show tk = 10 ∨ tk = 12 from by omega), ← hsx] at h; injection h with h; injection h with h3 h4; subst h3 h4; exact h2)
    have b1 : 0 ≤ i + 5 := by omega
    have b2 : sd ≤ KK (i + 5) := by have h := HK.out; have h3 := KK_le (i := i + 1) (j := i + 5) (by omega); omega
    have b3 : max sm (sd + sn + sx) ≤ KK (i + 5 + 1) := by have h := HK.out; have h3 := KK_le (i := i + 1 + 1) (j := i + 5 + 1) (by omega); omega
    have b4 : sw.length ≤ i + 5 := by omega
    have HBB := LH (And.intro b1 (And.intro b2 (And.intro b3 b4))); clear b1 b2 b3 b4
    have HC5 := LH (show Calls Tryd.prog 53 #[.slice (some a) ts.length cap, .int .i64 ((i : Int) + 5)] wr fun e w' => e = .returned (.int .i64 (sx : Int)) ∧ w' = wr from by rw [hsx]; exact HSU.out (i + 5) (by omega))
    have HMX := LH (ifmax3 sm sd sn sx)
    clear hk n6 n8 n9 hsx HSU
    go_wp2_with fail
    refine HC5.out.mono ?_
    rintro e w5 ⟨rfl, rfl⟩
    go_wp2
    go_roundw
    case rel => exact ⟨i + 5, ⟨max sm (sd + sn + sx), 0, sd, sw⟩, by omega, by go_num, by rw [HMX.out], rfl, rfl, HO.out, HN.out, HBB.out.1, HBB.out.2.1, HBB.out.2.2.1, HBB.out.2.2.2, HB.out⟩
    case measure => simp [intOf]; omega
   have n10 := hk; clear hk
   by_cases hk : tk = 12
   ·skip
    have e6 : ((tk : Int) == 6) = false := by rw [hk]; rfl
    have e8 : ((tk : Int) == 8) = false := by rw [hk]; rfl
    have e9 : ((tk : Int) == 9) = false := by rw [hk]; rfl
    have e10 : ((tk : Int) == 10) = false := by rw [hk]; rfl
    have e12 : ((tk : Int) == 12) = true := by rw [hk]; rfl
    obtain ⟨sx, hsx⟩ : ∃ sx, sx = sfxS (ts.drop (i + 5)) := ⟨_, rfl⟩
    have hsb : sx ≤ 100000000 := by have h := HSF.out (i + 5); omega
    have HN := LH (show NestRun ts ends (i + 5) ⟨max sm (sd + sn + sx), 0, sd, sw⟩ M from by have h := HST.out; obtain ⟨i', s', h, h2⟩ := h; unfold nestStep at h; rw [if_neg (show ¬ tk = 6 from n6), if_neg (show ¬ tk = 8 from n8), if_neg (show ¬ tk = 9 from n9), if_pos (show tk = 10 ∨ tk = 12 from by omega), ← hsx] at h; injection h with h; injection h with h3 h4; subst h3 h4; exact h2)
    have b1 : 0 ≤ i + 5 := by omega
    have b2 : sd ≤ KK (i + 5) := by have h := HK.out; have h3 := KK_le (i := i + 1) (j := i + 5) (by omega); omega
    have b3 : max sm (sd + sn + sx) ≤ KK (i + 5 + 1) := by have h := HK.out; have h3 := KK_le (i := i + 1 + 1) (j := i + 5 + 1) (by omega); omega
    have b4 : sw.length ≤ i + 5 := by omega
    have HBB := LH (And.intro b1 (And.intro b2 (And.intro b3 b4))); clear b1 b2 b3 b4
    have HC5 := LH (show Calls Tryd.prog 53 #[.slice (some a) ts.length cap, .int .i64 ((i : Int) + 5)] wr fun e w' => e = .returned (.int .i64 (sx : Int)) ∧ w' = wr from by rw [hsx]; exact HSU.out (i + 5) (by omega))
    have HMX := LH (ifmax3 sm sd sn sx)
    clear hk n6 n8 n9 hsx HSU n10
    go_wp2_with fail
    refine HC5.out.mono ?_
    rintro e w5 ⟨rfl, rfl⟩
    go_wp2
    go_roundw
    case rel => exact ⟨i + 5, ⟨max sm (sd + sn + sx), 0, sd, sw⟩, by omega, by go_num, by rw [HMX.out], rfl, rfl, HO.out, HN.out, HBB.out.1, HBB.out.2.1, HBB.out.2.2.1, HBB.out.2.2.2, HB.out⟩
    case measure => simp [intOf]; omega
   have n12 := hk; clear hk
   by_cases hk : tk = 1
   ·skip
    have e6 : ((tk : Int) == 6) = false := by rw [hk]; rfl
    have e8 : ((tk : Int) == 8) = false := by rw [hk]; rfl
    have e9 : ((tk : Int) == 9) = false := by rw [hk]; rfl
    have e10 : ((tk : Int) == 10) = false := by rw [hk]; rfl
    have e12 : ((tk : Int) == 12) = false := by rw [hk]; rfl
    have e1 : ((tk : Int) == 1) = true := by rw [hk]; rfl
    obtain ⟨sx, hsx⟩ : ∃ sx, sx = sfxS (ts.drop (i + 1)) := ⟨_, rfl⟩
    have hsb : sx ≤ 100000000 := by have h := HSF.out (i + 1); omega
    have HC5 := LH (show Calls Tryd.prog 53 #[.slice (some a) ts.length cap, .int .i64 ((i : Int) + 1)] wr fun e w' => e = .returned (.int .i64 (sx : Int)) ∧ w' = wr from by rw [hsx]; exact HSU.out (i + 1) (by omega))
    have HMX := LH (ifmax3 sm sd sn sx)
    have HHN := LH (fun (hc : colonAt ts (i + 1) = false) => (show NestRun ts ends (i + 1) ⟨max sm (sd + sn + sx), 0, sd, sw⟩ M from by have h := HST.out; obtain ⟨i', s', h, h2⟩ := h; unfold nestStep at h; rw [if_neg (show ¬ tk = 6 from n6), if_neg (show ¬ tk = 8 from n8), if_neg (show ¬ tk = 9 from n9), if_neg (show ¬ (tk = 10 ∨ tk = 12) from by omega), if_pos (show tk = 1 ∨ tk = 2 ∨ tk = 3 from by omega), if_neg (show ¬ colonAt ts (i + 1) = true from by rw [hc]; decide), ← hsx] at h; injection h with h; injection h with h3 h4; subst h3 h4; exact h2))
    have HHC := LH (fun (hc : colonAt ts (i + 1) = true) => (show NestRun ts ends (i + 2) ⟨sm, sn, sd, sw⟩ M from by have h := HST.out; obtain ⟨i', s', h, h2⟩ := h; unfold nestStep at h; rw [if_neg (show ¬ tk = 6 from n6), if_neg (show ¬ tk = 8 from n8), if_neg (show ¬ tk = 9 from n9), if_neg (show ¬ (tk = 10 ∨ tk = 12) from by omega), if_pos (show tk = 1 ∨ tk = 2 ∨ tk = 3 from by omega), if_pos hc] at h; injection h with h; injection h with h3 h4; subst h3 h4; exact h2))
    clear hk n6 n8 n9 n10 n12 hsx HSU
    by_cases hlt1 : i + 1 < ts.length
    ·obtain ⟨a1, ha1, hab1, p0, -, -, -, -⟩ := at_lt HXr.out hlt1
     cases ha1
     have HCA := LH (show colonAt ts (i + 1) = decide (ts[i + 1].kind = 14) from by unfold colonAt; rw [List.getElem?_eq_getElem hlt1])
     generalize ts[i + 1].kind = k1 at *
     by_cases hk1 : k1 = 14
     ·have f14 : (k1 == 14) = true := by simpa using hk1
      have HN := LH (HHC.out (by rw [HCA.out]; exact decide_eq_true hk1))
      have b1 : sn ≤ i + 2 := by omega
      have b2 : sd ≤ KK (i + 2) := by have h := HK.out; have h3 := KK_le (i := i + 1) (j := i + 2) (by omega); omega
      have b3 : sm ≤ KK (i + 2 + 1) := by have h := HK.out; have h3 := KK_le (i := i + 1 + 1) (j := i + 2 + 1) (by omega); omega
      have b4 : sw.length ≤ i + 2 := by omega
      have HBB := LH (And.intro b1 (And.intro b2 (And.intro b3 b4))); clear b1 b2 b3 b4
      clear hk1
      go_wp2
      go_roundw
      case rel => exact ⟨i + 2, ⟨sm, sn, sd, sw⟩, by omega, by go_num, rfl, rfl, rfl, HO.out, HN.out, HBB.out.1, HBB.out.2.1, HBB.out.2.2.1, HBB.out.2.2.2, HB.out⟩
      case measure => simp [intOf]; omega
     ·have f14 : (k1 == 14) = false := by simpa using hk1
      have HN := LH (HHN.out (by rw [HCA.out]; exact decide_eq_false hk1))
      clear hk1
      have b1 : 0 ≤ i + 1 := by omega
      have b2 : sd ≤ KK (i + 1) := by have h := HK.out; have h3 := KK_le (i := i + 1) (j := i + 1) (by omega); omega
      have b3 : max sm (sd + sn + sx) ≤ KK (i + 1 + 1) := by have h := HK.out; have h3 := KK_le (i := i + 1 + 1) (j := i + 1 + 1) (by omega); omega
      have b4 : sw.length ≤ i + 1 := by omega
      have HBB := LH (And.intro b1 (And.intro b2 (And.intro b3 b4))); clear b1 b2 b3 b4
      go_wp2_with fail
      refine HC5.out.mono ?_
      rintro e w5 ⟨rfl, rfl⟩
      go_wp2
      go_roundw
      case rel => exact ⟨i + 1, ⟨max sm (sd + sn + sx), 0, sd, sw⟩, by omega, by go_num, by rw [HMX.out], rfl, rfl, HO.out, HN.out, HBB.out.1, HBB.out.2.1, HBB.out.2.2.1, HBB.out.2.2.2, HB.out⟩
      case measure => simp [intOf]; omega
    ·have HN := LH (HHN.out (by unfold colonAt; rw [List.getElem?_eq_none (by omega)]))
     have f1 : decide ((i : Int) + 1 < (ts.length : Int)) = false := by simp; omega
     have b1 : 0 ≤ i + 1 := by omega
     have b2 : sd ≤ KK (i + 1) := by have h := HK.out; have h3 := KK_le (i := i + 1) (j := i + 1) (by omega); omega
     have b3 : max sm (sd + sn + sx) ≤ KK (i + 1 + 1) := by have h := HK.out; have h3 := KK_le (i := i + 1 + 1) (j := i + 1 + 1) (by omega); omega
     have b4 : sw.length ≤ i + 1 := by omega
     have HBB := LH (And.intro b1 (And.intro b2 (And.intro b3 b4))); clear b1 b2 b3 b4
     go_wp2_with fail
     refine HC5.out.mono ?_
     rintro e w5 ⟨rfl, rfl⟩
     go_wp2
     go_roundw
     case rel => exact ⟨i + 1, ⟨max sm (sd + sn + sx), 0, sd, sw⟩, by omega, by go_num, by rw [HMX.out], rfl, rfl, HO.out, HN.out, HBB.out.1, HBB.out.2.1, HBB.out.2.2.1, HBB.out.2.2.2, HB.out⟩
     case measure => simp [intOf]; omega
   have n1 := hk; clear hk
   by_cases hk : tk = 2
   ·skip
    have e6 : ((tk : Int) == 6) = false := by rw [hk]; rfl
    have e8 : ((tk : Int) == 8) = false := by rw [hk]; rfl
    have e9 : ((tk : Int) == 9) = false := by rw [hk]; rfl
    have e10 : ((tk : Int) == 10) = false := by rw [hk]; rfl
    have e12 : ((tk : Int) == 12) = false := by rw [hk]; rfl
    have e1 : ((tk : Int) == 1) = false := by rw [hk]; rfl
    have e2 : ((tk : Int) == 2) = true := by rw [hk]; rfl
    obtain ⟨sx, hsx⟩ : ∃ sx, sx = sfxS (ts.drop (i + 1)) := ⟨_, rfl⟩
    have hsb : sx ≤ 100000000 := by have h := HSF.out (i + 1); omega
    have HC5 := LH (show Calls Tryd.prog 53 #[.slice (some a) ts.length cap, .int .i64 ((i : Int) + 1)] wr fun e w' => e = .returned (.int .i64 (sx : Int)) ∧ w' = wr from by rw [hsx]; exact HSU.out (i + 1) (by omega))
    have HMX := LH (ifmax3 sm sd sn sx)
    have HHN := LH (fun (hc : colonAt ts (i + 1) = false) => (show NestRun ts ends (i + 1) ⟨max sm (sd + sn + sx), 0, sd, sw⟩ M from by have h := HST.out; obtain ⟨i', s', h, h2⟩ := h; unfold nestStep at h; rw [if_neg (show ¬ tk = 6 from n6), if_neg (show ¬ tk = 8 from n8), if_neg (show ¬ tk = 9 from n9), if_neg (show ¬ (tk = 10 ∨ tk = 12) from by omega), if_pos (show tk = 1 ∨ tk = 2 ∨ tk = 3 from by omega), if_neg (show ¬ colonAt ts (i + 1) = true from by rw [hc]; decide), ← hsx] at h; injection h with h; injection h with h3 h4; subst h3 h4; exact h2))
    have HHC := LH (fun (hc : colonAt ts (i + 1) = true) => (show NestRun ts ends (i + 2) ⟨sm, sn, sd, sw⟩ M from by have h := HST.out; obtain ⟨i', s', h, h2⟩ := h; unfold nestStep at h; rw [if_neg (show ¬ tk = 6 from n6), if_neg (show ¬ tk = 8 from n8), if_neg (show ¬ tk = 9 from n9), if_neg (show ¬ (tk = 10 ∨ tk = 12) from by omega), if_pos (show tk = 1 ∨ tk = 2 ∨ tk = 3 from by omega), if_pos hc] at h; injection h with h; injection h with h3 h4; subst h3 h4; exact h2))
    clear hk n6 n8 n9 n10 n12 n1 hsx HSU
    by_cases hlt1 : i + 1 < ts.length
    ·obtain ⟨a1, ha1, hab1, p0, -, -, -, -⟩ := at_lt HXr.out hlt1
     cases ha1
     have HCA := LH (show colonAt ts (i + 1) = decide (ts[i + 1].kind = 14) from by unfold colonAt; rw [List.getElem?_eq_getElem hlt1])
     generalize ts[i + 1].kind = k1 at *
     by_cases hk1 : k1 = 14
     ·have f14 : (k1 == 14) = true := by simpa using hk1
      have HN := LH (HHC.out (by rw [HCA.out]; exact decide_eq_true hk1))
      have b1 : sn ≤ i + 2 := by omega
      have b2 : sd ≤ KK (i + 2) := by have h := HK.out; have h3 := KK_le (i := i + 1) (j := i + 2) (by omega); omega
      have b3 : sm ≤ KK (i + 2 + 1) := by have h := HK.out; have h3 := KK_le (i := i + 1 + 1) (j := i + 2 + 1) (by omega); omega
      have b4 : sw.length ≤ i + 2 := by omega
      have HBB := LH (And.intro b1 (And.intro b2 (And.intro b3 b4))); clear b1 b2 b3 b4
      clear hk1
      go_wp2
      go_roundw
      case rel => exact ⟨i + 2, ⟨sm, sn, sd, sw⟩, by omega, by go_num, rfl, rfl, rfl, HO.out, HN.out, HBB.out.1, HBB.out.2.1, HBB.out.2.2.1, HBB.out.2.2.2, HB.out⟩
      case measure => simp [intOf]; omega
     ·have f14 : (k1 == 14) = false := by simpa using hk1
      have HN := LH (HHN.out (by rw [HCA.out]; exact decide_eq_false hk1))
      clear hk1
      have b1 : 0 ≤ i + 1 := by omega
      have b2 : sd ≤ KK (i + 1) := by have h := HK.out; have h3 := KK_le (i := i + 1) (j := i + 1) (by omega); omega
      have b3 : max sm (sd + sn + sx) ≤ KK (i + 1 + 1) := by have h := HK.out; have h3 := KK_le (i := i + 1 + 1) (j := i + 1 + 1) (by omega); omega
      have b4 : sw.length ≤ i + 1 := by omega
      have HBB := LH (And.intro b1 (And.intro b2 (And.intro b3 b4))); clear b1 b2 b3 b4
      go_wp2_with fail
      refine HC5.out.mono ?_
      rintro e w5 ⟨rfl, rfl⟩
      go_wp2
      go_roundw
      case rel => exact ⟨i + 1, ⟨max sm (sd + sn + sx), 0, sd, sw⟩, by omega, by go_num, by rw [HMX.out], rfl, rfl, HO.out, HN.out, HBB.out.1, HBB.out.2.1, HBB.out.2.2.1, HBB.out.2.2.2, HB.out⟩
      case measure => simp [intOf]; omega
    ·have HN := LH (HHN.out (by unfold colonAt; rw [List.getElem?_eq_none (by omega)]))
     have f1 : decide ((i : Int) + 1 < (ts.length : Int)) = false := by simp; omega
     have b1 : 0 ≤ i + 1 := by omega
     have b2 : sd ≤ KK (i + 1) := by have h := HK.out; have h3 := KK_le (i := i + 1) (j := i + 1) (by omega); omega
     have b3 : max sm (sd + sn + sx) ≤ KK (i + 1 + 1) := by have h := HK.out; have h3 := KK_le (i := i + 1 + 1) (j := i + 1 + 1) (by omega); omega
     have b4 : sw.length ≤ i + 1 := by omega
     have HBB := LH (And.intro b1 (And.intro b2 (And.intro b3 b4))); clear b1 b2 b3 b4
     go_wp2_with fail
     refine HC5.out.mono ?_
     rintro e w5 ⟨rfl, rfl⟩
     go_wp2
     go_roundw
     case rel => exact ⟨i + 1, ⟨max sm (sd + sn + sx), 0, sd, sw⟩, by omega, by go_num, by rw [HMX.out], rfl, rfl, HO.out, HN.out, HBB.out.1, HBB.out.2.1, HBB.out.2.2.1, HBB.out.2.2.2, HB.out⟩
     case measure => simp [intOf]; omega
   have n2 := hk; clear hk
   by_cases hk : tk = 3
   ·skip
    have e6 : ((tk : Int) == 6) = false := by rw [hk]; rfl
    have e8 : ((tk : Int) == 8) = false := by rw [hk]; rfl
    have e9 : ((tk : Int) == 9) = false := by rw [hk]; rfl
    have e10 : ((tk : Int) == 10) = false := by rw [hk]; rfl
    have e12 : ((tk : Int) == 12) = false := by rw [hk]; rfl
    have e1 : ((tk : Int) == 1) = false := by rw [hk]; rfl
    have e2 : ((tk : Int) == 2) = false := by rw [hk]; rfl
    have e3 : ((tk : Int) == 3) = true := by rw [hk]; rfl
    obtain ⟨sx, hsx⟩ : ∃ sx, sx = sfxS (ts.drop (i + 1)) := ⟨_, rfl⟩
    have hsb : sx ≤ 100000000 := by have h := HSF.out (i + 1); omega
    have HC5 := LH (show Calls Tryd.prog 53 #[.slice (some a) ts.length cap, .int .i64 ((i : Int) + 1)] wr fun e w' => e = .returned (.int .i64 (sx : Int)) ∧ w' = wr from by rw [hsx]; exact HSU.out (i + 1) (by omega))
    have HMX := LH (ifmax3 sm sd sn sx)
    have HHN := LH (fun (hc : colonAt ts (i + 1) = false) => (show NestRun ts ends (i + 1) ⟨max sm (sd + sn + sx), 0, sd, sw⟩ M from by have h := HST.out; obtain ⟨i', s', h, h2⟩ := h; unfold nestStep at h; rw [if_neg (show ¬ tk = 6 from n6), if_neg (show ¬ tk = 8 from n8), if_neg (show ¬ tk = 9 from n9), if_neg (show ¬ (tk = 10 ∨ tk = 12) from by omega), if_pos (show tk = 1 ∨ tk = 2 ∨ tk = 3 from by omega), if_neg (show ¬ colonAt ts (i + 1) = true from by rw [hc]; decide), ← hsx] at h; injection h with h; injection h with h3 h4; subst h3 h4; exact h2))
    have HHC := LH (fun (hc : colonAt ts (i + 1) = true) => (show NestRun ts ends (i + 2) ⟨sm, sn, sd, sw⟩ M from by have h := HST.out; obtain ⟨i', s', h, h2⟩ := h; unfold nestStep at h; rw [if_neg (show ¬ tk = 6 from n6), if_neg (show ¬ tk = 8 from n8), if_neg (show ¬ tk = 9 from n9), if_neg (show ¬ (tk = 10 ∨ tk = 12) from by omega), if_pos (show tk = 1 ∨ tk = 2 ∨ tk = 3 from by omega), if_pos hc] at h; injection h with h; injection h with h3 h4; subst h3 h4; exact h2))
    clear hk n6 n8 n9 n10 n12 n1 n2 hsx HSU
    by_cases hlt1 : i + 1 < ts.length
    ·obtain ⟨a1, ha1, hab1, p0, -, -, -, -⟩ := at_lt HXr.out hlt1
     cases ha1
     have HCA := LH (show colonAt ts (i + 1) = decide (ts[i + 1].kind = 14) from by unfold colonAt; rw [List.getElem?_eq_getElem hlt1])
     generalize ts[i + 1].kind = k1 at *
     by_cases hk1 : k1 = 14
     ·have f14 : (k1 == 14) = true := by simpa using hk1
      have HN := LH (HHC.out (by rw [HCA.out]; exact decide_eq_true hk1))
      have b1 : sn ≤ i + 2 := by omega
      have b2 : sd ≤ KK (i + 2) := by have h := HK.out; have h3 := KK_le (i := i + 1) (j := i + 2) (by omega); omega
      have b3 : sm ≤ KK (i + 2 + 1) := by have h := HK.out; have h3 := KK_le (i := i + 1 + 1) (j := i + 2 + 1) (by omega); omega
      have b4 : sw.length ≤ i + 2 := by omega
      have HBB := LH (And.intro b1 (And.intro b2 (And.intro b3 b4))); clear b1 b2 b3 b4
      clear hk1
      go_wp2
      go_roundw
      case rel => exact ⟨i + 2, ⟨sm, sn, sd, sw⟩, by omega, by go_num, rfl, rfl, rfl, HO.out, HN.out, HBB.out.1, HBB.out.2.1, HBB.out.2.2.1, HBB.out.2.2.2, HB.out⟩
      case measure => simp [intOf]; omega
     ·have f14 : (k1 == 14) = false := by simpa using hk1
      have HN := LH (HHN.out (by rw [HCA.out]; exact decide_eq_false hk1))
      clear hk1
      have b1 : 0 ≤ i + 1 := by omega
      have b2 : sd ≤ KK (i + 1) := by have h := HK.out; have h3 := KK_le (i := i + 1) (j := i + 1) (by omega); omega
      have b3 : max sm (sd + sn + sx) ≤ KK (i + 1 + 1) := by have h := HK.out; have h3 := KK_le (i := i + 1 + 1) (j := i + 1 + 1) (by omega); omega
      have b4 : sw.length ≤ i + 1 := by omega
      have HBB := LH (And.intro b1 (And.intro b2 (And.intro b3 b4))); clear b1 b2 b3 b4
      go_wp2_with fail
      refine HC5.out.mono ?_
      rintro e w5 ⟨rfl, rfl⟩
      go_wp2
      go_roundw
      case rel => exact ⟨i + 1, ⟨max sm (sd + sn + sx), 0, sd, sw⟩, by omega, by go_num, by rw [HMX.out], rfl, rfl, HO.out, HN.out, HBB.out.1, HBB.out.2.1, HBB.out.2.2.1, HBB.out.2.2.2, HB.out⟩
      case measure => simp [intOf]; omega
    ·have HN := LH (HHN.out (by unfold colonAt; rw [List.getElem?_eq_none (by omega)]))
     have f1 : decide ((i : Int) + 1 < (ts.length : Int)) = false := by simp; omega
     have b1 : 0 ≤ i + 1 := by omega
     have b2 : sd ≤ KK (i + 1) := by have h := HK.out; have h3 := KK_le (i := i + 1) (j := i + 1) (by omega); omega
     have b3 : max sm (sd + sn + sx) ≤ KK (i + 1 + 1) := by have h := HK.out; have h3 := KK_le (i := i + 1 + 1) (j := i + 1 + 1) (by omega); omega
     have b4 : sw.length ≤ i + 1 := by omega
     have HBB := LH (And.intro b1 (And.intro b2 (And.intro b3 b4))); clear b1 b2 b3 b4
     go_wp2_with fail
     refine HC5.out.mono ?_
     rintro e w5 ⟨rfl, rfl⟩
     go_wp2
     go_roundw
     case rel => exact ⟨i + 1, ⟨max sm (sd + sn + sx), 0, sd, sw⟩, by omega, by go_num, by rw [HMX.out], rfl, rfl, HO.out, HN.out, HBB.out.1, HBB.out.2.1, HBB.out.2.2.1, HBB.out.2.2.2, HB.out⟩
     case measure => simp [intOf]; omega
   have n3 := hk; clear hk
   have e6 : ((tk : Int) == 6) = false := by simpa using n6
   have e8 : ((tk : Int) == 8) = false := by simpa using n8
   have e9 : ((tk : Int) == 9) = false := by simpa using n9
   have e10 : ((tk : Int) == 10) = false := by simpa using n10
   have e12 : ((tk : Int) == 12) = false := by simpa using n12
   have e1 : ((tk : Int) == 1) = false := by simpa using n1
   have e2 : ((tk : Int) == 2) = false := by simpa using n2
   have e3 : ((tk : Int) == 3) = false := by simpa using n3
   have HN := LH (show NestRun ts ends (i + 1) ⟨sm, sn, sd, sw⟩ M from by have h := HST.out; obtain ⟨i', s', h, h2⟩ := h; unfold nestStep at h; rw [if_neg (show ¬ tk = 6 from n6), if_neg (show ¬ tk = 8 from n8), if_neg (show ¬ tk = 9 from n9), if_neg (show ¬ (tk = 10 ∨ tk = 12) from by omega), if_neg (show ¬ (tk = 1 ∨ tk = 2 ∨ tk = 3) from by omega)] at h; injection h with h; injection h with h3 h4; subst h3 h4; exact h2)
   have b1 : sn ≤ i + 1 := by omega
   have b2 : sd ≤ KK (i + 1) := by have h := HK.out; have h3 := KK_le (i := i + 1) (j := i + 1) (by omega); omega
   have b3 : sm ≤ KK (i + 1 + 1) := by have h := HK.out; have h3 := KK_le (i := i + 1 + 1) (j := i + 1 + 1) (by omega); omega
   have b4 : sw.length ≤ i + 1 := by omega
   have HBB := LH (And.intro b1 (And.intro b2 (And.intro b3 b4))); clear b1 b2 b3 b4
   clear n6 n8 n9 n10 n12 n1 n2 n3
   go_wp2
   go_roundw
   case rel => exact ⟨i + 1, ⟨sm, sn, sd, sw⟩, by omega, by go_num, rfl, rfl, rfl, HO.out, HN.out, HBB.out.1, HBB.out.2.1, HBB.out.2.2.1, HBB.out.2.2.2, HB.out⟩
   case measure => simp [intOf]; omega
  ·have hke : ts.length ≤ i := by omega
   have HMM := LH (show sm = M from by
    rcases HR.out with ⟨h⟩ | ⟨h, h2, h3⟩
    ·rfl
    ·rw [List.getElem?_eq_none hke] at h; cases h)
   clear hke
   go_wp2
   go_ret
   exact ⟨by rw [HMM.out]; first | rfl | (show _ = _; simp [go_sem]), HB1.out.trans (HB.out.mono hs1)⟩
end Go.Proofs.YtcomdkejpaoneaaDoor
end
section
namespace Go.Proofs.YtcomdkejpaoneaaDoor
open Go.RowKit
set_option maxRecDepth 100000
set_option maxHeartbeats 4000000
set_option linter.unusedSimpArgs false
set_option linter.unusedVariables false
def rbS : Shape Bool := { tS := 97, tE := 4, size := 1, bytes := 1, enc := fun x => [.bool x], zero := .bool false }
theorem rbOk : rbS.Ok where
 under := Tryd.underlying97
 info := by kernel_rfl
 zs := rfl
 pos := by decide
 len := fun _ => rfl
 one := fun x u hu => by
  simp only [rbS, List.mem_cons, List.not_mem_nil, or_false] at hu
  subst hu; rfl
 small := by decide
def RwV (w : World) (B : Nat) (v x : Value) (r : Rw) : Prop := B ≤ w.heap.size ∧ x = .agg #[.int .i64 (r.at_ : Int), .bool r.signed, v] ∧ RdL rbS w B v r.open_
def RwO (w : World) (C : Nat) (v0 : Value) (ro : List Bool) (x : Value) (r : Rw) : Prop := ∃ v, x = .agg #[.int .i64 (r.at_ : Int), .bool r.signed, v] ∧ ((v = v0 ∧ r.open_ = ro) ∨ OwnL rbS w C v r.open_)
def RwX (x : Value) : Prop := ∃ (a : Int) (s : Bool) (A : Option Addr) (n c : Nat), x = .agg #[.int .i64 a, .bool s, .slice A n c]
def RwRet (r : Option Rw) (v0 : Value) (ro : List Bool) (w : World) (e : Ending) (w' : World) : Prop :=
 Below w.heap.size w w' ∧ ∃ x, e = .returned (.tuple #[x, .bool r.isSome]) ∧ RwX x ∧ ∀ r', r = some r' → RwO w' w.heap.size v0 ro x r'
theorem rstar_any (t : Lt) (w : World) :
  Calls Tryd.prog 78 #[ltVal t] w fun e w' => e = .returned (.bool (starT t)) ∧ Below w.heap.size w w' := by
 obtain ⟨k, tx, n, a, b⟩ := t
 have hst := str_star tx
 unfold starT ltVal
 simp only []
 by_cases hk : k = 2
 ·subst hk
  by_cases ht : tx = [42]
  ·rw [decide_eq_true ht] at hst
   rw [decide_eq_true (rfl : (2 : Int) = 2), decide_eq_true ht]
   clear ht
   generalize str tx = s at *
   go_enter Tryd.func78, Tryd.ntmps78
   go_wp2
   go_ret
   exact ⟨rfl, (Below.refl _ _).alloc (Nat.le_refl _) _⟩
  ·rw [decide_eq_false ht] at hst
   rw [decide_eq_true (rfl : (2 : Int) = 2), decide_eq_false ht]
   clear ht
   generalize str tx = s at *
   go_enter Tryd.func78, Tryd.ntmps78
   go_wp2
   go_ret
   exact ⟨rfl, (Below.refl _ _).alloc (Nat.le_refl _) _⟩
 ·rw [decide_eq_false hk]
  have e2 : (k == 2) = false := by simpa using hk
  clear hst
  go_enter Tryd.func78, Tryd.ntmps78
  go_wp2
  go_ret
  exact ⟨rfl, (Below.refl _ _).alloc (Nat.le_refl _) _⟩
end Go.Proofs.YtcomdkejpaoneaaDoor
end
