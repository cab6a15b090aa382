/- Merged for a claim by shake.py: Jbn Jbh Jbr -/
import Derived.Test.YthcldpminmhgkaaDoorKwA
import Derived.Test.YthcldpminmhgkaaDoorKw30
import Derived.Test.YthcldpminmhgkaaDoorKw37
import Derived.Test.YthcldpminmhgkaaDoorKw38
import Derived.Test.YthcldpminmhgkaaDoorRows
set_option maxRecDepth 100000
set_option maxHeartbeats 4000000
set_option linter.unusedSimpArgs false
set_option linter.unusedVariables false
section
namespace Go.Proofs.YthcldpminmhgkaaDoor
open Go.RowKit
theorem plays_walk (t u : Nd) (w : World) (ea : List Addr) (x y : NV) (hx : NdR w (fun b => b < w.heap.size) x t) (hy : NdR w (fun b => b < w.heap.size) y u) (hbk : bkN t ≤ 1048576) (hbu : bkN u ≤ 1048576) (hE : LawEnv w ea) :
  Calls Tryd.prog 3 #[x.val, y.val] w fun e w' => e = .returned (.bool true) ∧ Below w.heap.size w w' := by
 obtain ⟨kdN, flN, txN, xnN, ⟨laN, lbN, lcN⟩, ⟨raN, rbN, rcN⟩, ⟨oaN, onN, ocN⟩, ⟨kaN, knN, kcN⟩⟩ := x
 obtain ⟨kdM, flM, txM, xnM, ⟨laM, lbM, lcM⟩, ⟨raM, rbM, rcM⟩, ⟨oaM, onM, ocM⟩, ⟨kaM, knM, kcM⟩⟩ := y
 have HB_0 := LH (show Below w.heap.size w ((w.alloc (.cells #[.int .i64 kdN, .string (str flN), .string (str txN), .int .i64 xnN, .bool laN, .bool lbN, .string (str lcN), .bool raN, .bool rbN, .string (str rcN), .slice oaN onN ocN, .slice kaN knN kcN] 27)).alloc (.cells #[.int .i64 kdM, .string (str flM), .string (str txM), .int .i64 xnM, .bool laM, .bool lbM, .string (str lcM), .bool raM, .bool rbM, .string (str rcM), .slice oaM onM ocM, .slice kaM knM kcM] 27)) from ((Below.refl w.heap.size w).alloc (Nat.le_refl _) (.cells #[.int .i64 kdN, .string (str flN), .string (str txN), .int .i64 xnN, .bool laN, .bool lbN, .string (str lcN), .bool raN, .bool rbN, .string (str rcN), .slice oaN onN ocN, .slice kaN knN kcN] 27)).alloc (by rw [World.size_alloc]; exact Nat.le_succ _) (.cells #[.int .i64 kdM, .string (str flM), .string (str txM), .int .i64 xnM, .bool laM, .bool lbM, .string (str lcM), .bool raM, .bool rbM, .string (str rcM), .slice oaM onM ocM, .slice kaM knM kcM] 27))
 have HE_0 := LH (hE.below HB_0.out)
 have HN_0 := LH ((Blk.new w 27 #[.int .i64 kdN, .string (str flN), .string (str txN), .int .i64 xnN, .bool laN, .bool lbN, .string (str lcN), .bool raN, .bool rbN, .string (str rcN), .slice oaN onN ocN, .slice kaN knN kcN]).alloc (.cells #[.int .i64 kdM, .string (str flM), .string (str txM), .int .i64 xnM, .bool laM, .bool lbM, .string (str lcM), .bool raM, .bool rbM, .string (str rcM), .slice oaM onM ocM, .slice kaM knM kcM] 27))
 have HM_0 := LH (show Blk ((w.alloc (.cells #[.int .i64 kdN, .string (str flN), .string (str txN), .int .i64 xnN, .bool laN, .bool lbN, .string (str lcN), .bool raN, .bool rbN, .string (str rcN), .slice oaN onN ocN, .slice kaN knN kcN] 27)).alloc (.cells #[.int .i64 kdM, .string (str flM), .string (str txM), .int .i64 xnM, .bool laM, .bool lbM, .string (str lcM), .bool raM, .bool rbM, .string (str rcM), .slice oaM onM ocM, .slice kaM knM kcM] 27)) (w.heap.size + 1) 27 #[.int .i64 kdM, .string (str flM), .string (str txM), .int .i64 xnM, .bool laM, .bool lbM, .string (str lcM), .bool raM, .bool rbM, .string (str rcM), .slice oaM onM ocM, .slice kaM knM kcM] from by have h := Blk.new (w.alloc (.cells #[.int .i64 kdN, .string (str flN), .string (str txN), .int .i64 xnN, .bool laN, .bool lbN, .string (str lcN), .bool raN, .bool rbN, .string (str rcN), .slice oaN onN ocN, .slice kaN knN kcN] 27)) 27 #[.int .i64 kdM, .string (str flM), .string (str txM), .int .i64 xnM, .bool laM, .bool lbM, .string (str lcM), .bool raM, .bool rbM, .string (str rcM), .slice oaM onM ocM, .slice kaM knM kcM]; rw [World.size_alloc] at h; exact h)
 have HX_0 := LH ((hx.belowW HB_0.out).mono (G := fun _ => True) fun _ _ => trivial)
 have HY_0 := LH ((hy.belowW HB_0.out).mono (G := fun _ => True) fun _ _ => trivial)
 have HBK := LH (show bkN t ≤ 300000000000 from Nat.le_trans hbk (by decide)); have HBU := LH (show bkN u ≤ 300000000000 from Nat.le_trans hbu (by decide))
 clear hx hy hE hbk hbu
 unfold NV.val
 simp only []
 go_enter Tryd.func3, Tryd.ntmps3
 go_wp2_with fail
 generalize ((w.alloc (.cells #[.int .i64 kdN, .string (str flN), .string (str txN), .int .i64 xnN, .bool laN, .bool lbN, .string (str lcN), .bool raN, .bool rbN, .string (str rcN), .slice oaN onN ocN, .slice kaN knN kcN] 27)).alloc (.cells #[.int .i64 kdM, .string (str flM), .string (str txM), .int .i64 xnM, .bool laM, .bool lbM, .string (str lcM), .bool raM, .bool rbM, .string (str rcM), .slice oaM onM ocM, .slice kaM knM kcM] 27)) = w0 at *
 have HCALL := LH (fixed_any w0 ea HE_0.out)
 skip
 refine HCALL.out.mono ?_
 rintro e w1 ⟨rfl, hb⟩
 clear HCALL
 have HB_1 := LH (HB_0.out.trans (hb.mono HB_0.out.size))
 have HE_1 := LH (HE_0.out.below hb)
 have HN_1 := LH (HN_0.out.belowW hb)
 have HM_1 := LH (HM_0.out.belowW hb)
 have HX_1 := LH (HX_0.out.belowW hb)
 have HY_1 := LH (HY_0.out.belowW hb)
 clear HB_0 HE_0 HN_0 HM_0 HX_0 HY_0
 clear hb
 have nzz := HN_1.out
 obtain ⟨n0, n1, n2, n3, n4, n5, n6, n7, n8, n9, n10, n11, -, -, -, -, -, -, -, -, -, -, -, -, ln⟩ := blk12 nzz
 clear nzz
 have HCALL := LH (few_any t w1 _ _ 4000 HX_1.out (Nat.le_trans HBK.out (by decide)) (by decide))
 unfold NV.val at HCALL
 simp only [] at HCALL
 go_wp2_with fail
 refine HCALL.out.mono ?_
 rintro e w2 ⟨rfl, hb⟩
 clear HCALL
 clear n0 n1 n2 n3 n4 n5 n6 n7 n8 n9 n10 n11 ln
 have HB_2 := LH (HB_1.out.trans (hb.mono HB_1.out.size))
 have HE_2 := LH (HE_1.out.below hb)
 have HN_2 := LH (HN_1.out.belowW hb)
 have HM_2 := LH (HM_1.out.belowW hb)
 have HX_2 := LH (HX_1.out.belowW hb)
 have HY_2 := LH (HY_1.out.belowW hb)
 clear HB_1 HE_1 HN_1 HM_1 HX_1 HY_1
 clear hb
 by_cases hfew : wtN t ≤ 4000
 case neg =>
  have hd : decide (wtN t ≤ 4000) = false := decide_eq_false hfew
  go_wp2
  go_ret
  exact ⟨rfl, HB_2.out⟩
 have hd1 : decide (wtN t ≤ 4000) = true := decide_eq_true hfew
 clear hfew
 have nzz := HM_2.out
 obtain ⟨n0, n1, n2, n3, n4, n5, n6, n7, n8, n9, n10, n11, -, -, -, -, -, -, -, -, -, -, -, -, ln⟩ := blk12 nzz
 clear nzz
 have HCALL := LH (few_any u w2 _ _ 4000 HY_2.out (Nat.le_trans HBU.out (by decide)) (by decide))
 unfold NV.val at HCALL
 simp only [] at HCALL
 go_wp2_with fail
 refine HCALL.out.mono ?_
 rintro e w3 ⟨rfl, hb⟩
 clear HCALL
 clear n0 n1 n2 n3 n4 n5 n6 n7 n8 n9 n10 n11 ln
 have HB_3 := LH (HB_2.out.trans (hb.mono HB_2.out.size))
 have HE_3 := LH (HE_2.out.below hb)
 have HN_3 := LH (HN_2.out.belowW hb)
 have HM_3 := LH (HM_2.out.belowW hb)
 have HX_3 := LH (HX_2.out.belowW hb)
 have HY_3 := LH (HY_2.out.belowW hb)
 clear HB_2 HE_2 HN_2 HM_2 HX_2 HY_2
 clear hb
 by_cases hfew : wtN u ≤ 4000
 case neg =>
  have hd : decide (wtN u ≤ 4000) = false := decide_eq_false hfew
  go_wp2
  go_ret
  exact ⟨rfl, HB_3.out⟩
 have hd2 : decide (wtN u ≤ 4000) = true := decide_eq_true hfew
 clear hfew
 have nzz := HN_3.out
 obtain ⟨n0, n1, n2, n3, n4, n5, n6, n7, n8, n9, n10, n11, -, -, -, -, -, -, -, -, -, -, -, -, ln⟩ := blk12 nzz
 clear nzz
 have mzz := HM_3.out
 obtain ⟨m0, m1, m2, m3, m4, m5, m6, m7, m8, m9, m10, m11, -, -, -, -, -, -, -, -, -, -, -, -, lm⟩ := blk12 mzz
 clear mzz
 go_upto_region 5 with (fail)
 go_cut [5, 6] (fun v5 v6 wx => TwoR t u w3 v5 v6 wx)
 case first =>
  clear n0 n1 n2 n3 n4 n5 n6 n7 n8 n9 n10 n11 ln m0 m1 m2 m3 m4 m5 m6 m7 m8 m9 m10 m11 lm
  refine (show Code.wp Tryd.prog (prg 5) _ _ _ from plays_r5 t u w3 _ ⟨kdN, flN, txN, xnN, ⟨laN, lbN, lcN⟩, ⟨raN, rbN, rcN⟩, ⟨oaN, onN, ocN⟩, ⟨kaN, knN, kcN⟩⟩ ⟨kdM, flM, txM, xnM, ⟨laM, lbM, lcM⟩, ⟨raM, rbM, rcM⟩, ⟨oaM, onM, ocM⟩, ⟨kaM, knM, kcM⟩⟩ w.heap.size (w.heap.size + 1) _ _ rfl rfl rfl HN_3.out HM_3.out HX_3.out HY_3.out (Nat.le_trans HBK.out (by decide)) (Nat.le_trans HBU.out (by decide)) ?_)
  intro v5 v6 x18 x19 x20 x21 wx hR
  unfold put6
  simp only [List.setIfInBounds_toArray, List.set_cons_zero, List.set_cons_succ]
  go_wp2
  go_meet
  exact hR
 case rest =>
 clear n0 n1 n2 n3 n4 n5 n6 n7 n8 n9 n10 n11 ln m0 m1 m2 m3 m4 m5 m6 m7 m8 m9 m10 m11 lm
 obtain ⟨g5, g6, x, y, rfl, rfl, hb, hA, hB, hxt, hyu⟩ := hcut
 generalize wc = w4 at *
 have HB_4 := LH (HB_3.out.trans (hb.mono HB_3.out.size))
 have HE_4 := LH (HE_3.out.below hb)
 have HN_4 := LH (HN_3.out.belowW hb)
 have HM_4 := LH (HM_3.out.belowW hb)
 have HX_4 := LH (HX_3.out.belowW hb)
 have HY_4 := LH (HY_3.out.belowW hb)
 clear HB_3 HE_3 HN_3 HM_3 HX_3 HY_3
 obtain ⟨kdP, flP, txP, xnP, ⟨laP, lbP, lcP⟩, ⟨raP, rbP, rcP⟩, ⟨oaP, onP, ocP⟩, ⟨kaP, knP, kcP⟩⟩ := x
 obtain ⟨kdQ, flQ, txQ, xnQ, ⟨laQ, lbQ, lcQ⟩, ⟨raQ, rbQ, rcQ⟩, ⟨oaQ, onQ, ocQ⟩, ⟨kaQ, knQ, kcQ⟩⟩ := y
 have HA_4 := LH (show Blk w4 g5 27 #[.int .i64 kdP, .string (str flP), .string (str txP), .int .i64 xnP, .bool laP, .bool lbP, .string (str lcP), .bool raP, .bool rbP, .string (str rcP), .slice oaP onP ocP, .slice kaP knP kcP] from hA)
 have HC_4 := LH (show Blk w4 g6 27 #[.int .i64 kdQ, .string (str flQ), .string (str txQ), .int .i64 xnQ, .bool laQ, .bool lbQ, .string (str lcQ), .bool raQ, .bool rbQ, .string (str rcQ), .slice oaQ onQ ocQ, .slice kaQ knQ kcQ] from hB)
 have HU_4 := LH hxt; have HV_4 := LH hyu
 clear hb hA hB hxt hyu
 have pzz := HA_4.out
 obtain ⟨p0, p1, p2, p3, p4, p5, p6, p7, p8, p9, p10, p11, -, -, -, -, -, -, -, -, -, -, -, -, lp⟩ := blk12 pzz
 clear pzz
 have HCALL := LH (oneAny15 t w4 ea _ _ HU_4.out HBK.out HE_4.out)
 unfold NV.val at HCALL
 simp only [] at HCALL
 go_wp2_with fail
 refine HCALL.out.mono ?_
 rintro e w5 ⟨rfl, hb⟩
 clear HCALL
 clear p0 p1 p2 p3 p4 p5 p6 p7 p8 p9 p10 p11 lp
 have HB_5 := LH (HB_4.out.trans (hb.mono HB_4.out.size))
 have HE_5 := LH (HE_4.out.below hb)
 have HN_5 := LH (HN_4.out.belowW hb)
 have HM_5 := LH (HM_4.out.belowW hb)
 have HX_5 := LH (HX_4.out.belowW hb)
 have HY_5 := LH (HY_4.out.belowW hb)
 have HA_5 := LH (HA_4.out.belowW hb)
 have HC_5 := LH (HC_4.out.belowW hb)
 have HU_5 := LH (HU_4.out.belowW hb)
 have HV_5 := LH (HV_4.out.belowW hb)
 clear HB_4 HE_4 HN_4 HM_4 HX_4 HY_4 HA_4 HC_4 HU_4 HV_4
 clear hb
 have qzz := HC_5.out
 obtain ⟨q0, q1, q2, q3, q4, q5, q6, q7, q8, q9, q10, q11, -, -, -, -, -, -, -, -, -, -, -, -, lq⟩ := blk12 qzz
 clear qzz
 have HCALL := LH (oneAny15 u w5 ea _ _ HV_5.out HBU.out HE_5.out)
 unfold NV.val at HCALL
 simp only [] at HCALL
 go_wp2_with fail
 refine HCALL.out.mono ?_
 rintro e w6 ⟨rfl, hb⟩
 clear HCALL
 clear q0 q1 q2 q3 q4 q5 q6 q7 q8 q9 q10 q11 lq
 have HB_6 := LH (HB_5.out.trans (hb.mono HB_5.out.size))
 have HE_6 := LH (HE_5.out.below hb)
 have HN_6 := LH (HN_5.out.belowW hb)
 have HM_6 := LH (HM_5.out.belowW hb)
 have HX_6 := LH (HX_5.out.belowW hb)
 have HY_6 := LH (HY_5.out.belowW hb)
 have HA_6 := LH (HA_5.out.belowW hb)
 have HC_6 := LH (HC_5.out.belowW hb)
 have HU_6 := LH (HU_5.out.belowW hb)
 have HV_6 := LH (HV_5.out.belowW hb)
 clear HB_5 HE_5 HN_5 HM_5 HX_5 HY_5 HA_5 HC_5 HU_5 HV_5
 clear hb
 have pzz := HA_6.out
 obtain ⟨p0, p1, p2, p3, p4, p5, p6, p7, p8, p9, p10, p11, -, -, -, -, -, -, -, -, -, -, -, -, lp⟩ := blk12 pzz
 clear pzz
 have nzz := HN_6.out
 obtain ⟨n0, n1, n2, n3, n4, n5, n6, n7, n8, n9, n10, n11, -, -, -, -, -, -, -, -, -, -, -, -, ln⟩ := blk12 nzz
 clear nzz
 have HCALL := LH (rsame_as (same_self t) HU_6.out HX_6.out)
 unfold NV.val at HCALL
 simp only [] at HCALL
 go_wp2_with fail
 refine HCALL.out.mono ?_
 rintro e w7 ⟨rfl, hb⟩
 clear HCALL
 clear p0 p1 p2 p3 p4 p5 p6 p7 p8 p9 p10 p11 lp
 clear n0 n1 n2 n3 n4 n5 n6 n7 n8 n9 n10 n11 ln
 have HB_7 := LH (HB_6.out.trans (hb.mono HB_6.out.size))
 have HE_7 := LH (HE_6.out.below hb)
 have HN_7 := LH (HN_6.out.belowW hb)
 have HM_7 := LH (HM_6.out.belowW hb)
 have HX_7 := LH (HX_6.out.belowW hb)
 have HY_7 := LH (HY_6.out.belowW hb)
 have HA_7 := LH (HA_6.out.belowW hb)
 have HC_7 := LH (HC_6.out.belowW hb)
 have HU_7 := LH (HU_6.out.belowW hb)
 have HV_7 := LH (HV_6.out.belowW hb)
 clear HB_6 HE_6 HN_6 HM_6 HX_6 HY_6 HA_6 HC_6 HU_6 HV_6
 clear hb
 have qzz := HC_7.out
 obtain ⟨q0, q1, q2, q3, q4, q5, q6, q7, q8, q9, q10, q11, -, -, -, -, -, -, -, -, -, -, -, -, lq⟩ := blk12 qzz
 clear qzz
 have mzz := HM_7.out
 obtain ⟨m0, m1, m2, m3, m4, m5, m6, m7, m8, m9, m10, m11, -, -, -, -, -, -, -, -, -, -, -, -, lm⟩ := blk12 mzz
 clear mzz
 have HCALL := LH (rsame_as (same_self u) HV_7.out HY_7.out)
 unfold NV.val at HCALL
 simp only [] at HCALL
 go_wp2_with fail
 refine HCALL.out.mono ?_
 rintro e w8 ⟨rfl, hb⟩
 clear HCALL
 clear q0 q1 q2 q3 q4 q5 q6 q7 q8 q9 q10 q11 lq
 clear m0 m1 m2 m3 m4 m5 m6 m7 m8 m9 m10 m11 lm
 have HB_8 := LH (HB_7.out.trans (hb.mono HB_7.out.size))
 have HE_8 := LH (HE_7.out.below hb)
 have HN_8 := LH (HN_7.out.belowW hb)
 have HM_8 := LH (HM_7.out.belowW hb)
 have HX_8 := LH (HX_7.out.belowW hb)
 have HY_8 := LH (HY_7.out.belowW hb)
 have HA_8 := LH (HA_7.out.belowW hb)
 have HC_8 := LH (HC_7.out.belowW hb)
 have HU_8 := LH (HU_7.out.belowW hb)
 have HV_8 := LH (HV_7.out.belowW hb)
 clear HB_7 HE_7 HN_7 HM_7 HX_7 HY_7 HA_7 HC_7 HU_7 HV_7
 clear hb
 have hcm : sameN u t = sameN t u := by
  rw [Bool.eq_iff_iff, same_iff, same_iff]
  exact ⟨fun h => h.symm, fun h => h.symm⟩
 cases hs : sameN t u
 all_goals
  rw [hs] at hcm
  have HS1 := LH hs; have HS2 := LH hcm
  clear hs hcm
  have nzz := HN_8.out
  obtain ⟨n0, n1, n2, n3, n4, n5, n6, n7, n8, n9, n10, n11, -, -, -, -, -, -, -, -, -, -, -, -, ln⟩ := blk12 nzz
  clear nzz
  have mzz := HM_8.out
  obtain ⟨m0, m1, m2, m3, m4, m5, m6, m7, m8, m9, m10, m11, -, -, -, -, -, -, -, -, -, -, -, -, lm⟩ := blk12 mzz
  clear mzz
  have HCALL := LH (rsame_as HS1.out HX_8.out HY_8.out)
  unfold NV.val at HCALL
  simp only [] at HCALL
  go_wp2_with fail
  refine HCALL.out.mono ?_
  rintro e w9 ⟨rfl, hb⟩
  clear HCALL
  clear n0 n1 n2 n3 n4 n5 n6 n7 n8 n9 n10 n11 ln
  clear m0 m1 m2 m3 m4 m5 m6 m7 m8 m9 m10 m11 lm
  have HB_9 := LH (HB_8.out.trans (hb.mono HB_8.out.size))
  have HE_9 := LH (HE_8.out.below hb)
  have HN_9 := LH (HN_8.out.belowW hb)
  have HM_9 := LH (HM_8.out.belowW hb)
  have HX_9 := LH (HX_8.out.belowW hb)
  have HY_9 := LH (HY_8.out.belowW hb)
  have HA_9 := LH (HA_8.out.belowW hb)
  have HC_9 := LH (HC_8.out.belowW hb)
  have HU_9 := LH (HU_8.out.belowW hb)
  have HV_9 := LH (HV_8.out.belowW hb)
  clear HB_8 HE_8 HN_8 HM_8 HX_8 HY_8 HA_8 HC_8 HU_8 HV_8
  clear hb
  have pzz := HA_9.out
  obtain ⟨p0, p1, p2, p3, p4, p5, p6, p7, p8, p9, p10, p11, -, -, -, -, -, -, -, -, -, -, -, -, lp⟩ := blk12 pzz
  clear pzz
  have qzz := HC_9.out
  obtain ⟨q0, q1, q2, q3, q4, q5, q6, q7, q8, q9, q10, q11, -, -, -, -, -, -, -, -, -, -, -, -, lq⟩ := blk12 qzz
  clear qzz
  have HCALL := LH (psame_as HS1.out HU_9.out HV_9.out)
  unfold NV.val at HCALL
  simp only [] at HCALL
  go_wp2_with fail
  refine HCALL.out.mono ?_
  rintro e w10 ⟨rfl, hb⟩
  clear HCALL
  clear p0 p1 p2 p3 p4 p5 p6 p7 p8 p9 p10 p11 lp
  clear q0 q1 q2 q3 q4 q5 q6 q7 q8 q9 q10 q11 lq
  have HB_10 := LH (HB_9.out.trans (hb.mono HB_9.out.size))
  have HE_10 := LH (HE_9.out.below hb)
  have HN_10 := LH (HN_9.out.belowW hb)
  have HM_10 := LH (HM_9.out.belowW hb)
  have HX_10 := LH (HX_9.out.belowW hb)
  have HY_10 := LH (HY_9.out.belowW hb)
  have HA_10 := LH (HA_9.out.belowW hb)
  have HC_10 := LH (HC_9.out.belowW hb)
  have HU_10 := LH (HU_9.out.belowW hb)
  have HV_10 := LH (HV_9.out.belowW hb)
  clear HB_9 HE_9 HN_9 HM_9 HX_9 HY_9 HA_9 HC_9 HU_9 HV_9
  clear hb
  have pzz := HA_10.out
  obtain ⟨p0, p1, p2, p3, p4, p5, p6, p7, p8, p9, p10, p11, -, -, -, -, -, -, -, -, -, -, -, -, lp⟩ := blk12 pzz
  clear pzz
  have qzz := HC_10.out
  obtain ⟨q0, q1, q2, q3, q4, q5, q6, q7, q8, q9, q10, q11, -, -, -, -, -, -, -, -, -, -, -, -, lq⟩ := blk12 qzz
  clear qzz
  have HCALL := LH (psame_as HS2.out HV_10.out HU_10.out)
  unfold NV.val at HCALL
  simp only [] at HCALL
  go_wp2_with fail
  refine HCALL.out.mono ?_
  rintro e w11 ⟨rfl, hb⟩
  clear HCALL
  clear p0 p1 p2 p3 p4 p5 p6 p7 p8 p9 p10 p11 lp
  clear q0 q1 q2 q3 q4 q5 q6 q7 q8 q9 q10 q11 lq
  have HB_11 := LH (HB_10.out.trans (hb.mono HB_10.out.size))
  have HE_11 := LH (HE_10.out.below hb)
  have HN_11 := LH (HN_10.out.belowW hb)
  have HM_11 := LH (HM_10.out.belowW hb)
  have HX_11 := LH (HX_10.out.belowW hb)
  have HY_11 := LH (HY_10.out.belowW hb)
  have HA_11 := LH (HA_10.out.belowW hb)
  have HC_11 := LH (HC_10.out.belowW hb)
  have HU_11 := LH (HU_10.out.belowW hb)
  have HV_11 := LH (HV_10.out.belowW hb)
  clear HB_10 HE_10 HN_10 HM_10 HX_10 HY_10 HA_10 HC_10 HU_10 HV_10
  clear hb
  have pzz := HA_11.out
  obtain ⟨p0, p1, p2, p3, p4, p5, p6, p7, p8, p9, p10, p11, -, -, -, -, -, -, -, -, -, -, -, -, lp⟩ := blk12 pzz
  clear pzz
  have nzz := HN_11.out
  obtain ⟨n0, n1, n2, n3, n4, n5, n6, n7, n8, n9, n10, n11, -, -, -, -, -, -, -, -, -, -, -, -, ln⟩ := blk12 nzz
  clear nzz
  have HCALL := LH (psame_as (same_self t) HU_11.out HX_11.out)
  unfold NV.val at HCALL
  simp only [] at HCALL
  go_wp2_with fail
  refine HCALL.out.mono ?_
  rintro e w12 ⟨rfl, hb⟩
  clear HCALL
  clear p0 p1 p2 p3 p4 p5 p6 p7 p8 p9 p10 p11 lp
  clear n0 n1 n2 n3 n4 n5 n6 n7 n8 n9 n10 n11 ln
  have HB_12 := LH (HB_11.out.trans (hb.mono HB_11.out.size))
  have HE_12 := LH (HE_11.out.below hb)
  have HN_12 := LH (HN_11.out.belowW hb)
  have HM_12 := LH (HM_11.out.belowW hb)
  have HX_12 := LH (HX_11.out.belowW hb)
  have HY_12 := LH (HY_11.out.belowW hb)
  have HA_12 := LH (HA_11.out.belowW hb)
  have HC_12 := LH (HC_11.out.belowW hb)
  have HU_12 := LH (HU_11.out.belowW hb)
  have HV_12 := LH (HV_11.out.belowW hb)
  clear HB_11 HE_11 HN_11 HM_11 HX_11 HY_11 HA_11 HC_11 HU_11 HV_11
  clear hb
  have qzz := HC_12.out
  obtain ⟨q0, q1, q2, q3, q4, q5, q6, q7, q8, q9, q10, q11, -, -, -, -, -, -, -, -, -, -, -, -, lq⟩ := blk12 qzz
  clear qzz
  have mzz := HM_12.out
  obtain ⟨m0, m1, m2, m3, m4, m5, m6, m7, m8, m9, m10, m11, -, -, -, -, -, -, -, -, -, -, -, -, lm⟩ := blk12 mzz
  clear mzz
  have HCALL := LH (psame_as (same_self u) HY_12.out HV_12.out)
  unfold NV.val at HCALL
  simp only [] at HCALL
  go_wp2_with fail
  refine HCALL.out.mono ?_
  rintro e w13 ⟨rfl, hb⟩
  clear HCALL
  clear q0 q1 q2 q3 q4 q5 q6 q7 q8 q9 q10 q11 lq
  clear m0 m1 m2 m3 m4 m5 m6 m7 m8 m9 m10 m11 lm
  have HB_13 := LH (HB_12.out.trans (hb.mono HB_12.out.size))
  have HE_13 := LH (HE_12.out.below hb)
  have HN_13 := LH (HN_12.out.belowW hb)
  have HM_13 := LH (HM_12.out.belowW hb)
  have HX_13 := LH (HX_12.out.belowW hb)
  have HY_13 := LH (HY_12.out.belowW hb)
  have HA_13 := LH (HA_12.out.belowW hb)
  have HC_13 := LH (HC_12.out.belowW hb)
  have HU_13 := LH (HU_12.out.belowW hb)
  have HV_13 := LH (HV_12.out.belowW hb)
  clear HB_12 HE_12 HN_12 HM_12 HX_12 HY_12 HA_12 HC_12 HU_12 HV_12
  clear hb
  go_wp2
  go_ret
  exact ⟨rfl, HB_13.out⟩
end Go.Proofs.YthcldpminmhgkaaDoor
end
section
namespace Go.Proofs.YthcldpminmhgkaaDoor
open Go.RowKit Go.ChangeShapes Go.WideShapes Go.Deep
theorem gTab15 : Tryd.prog.globalNamed "concord/lexer.classes" = some 25 := by kernel_rfl
theorem gTabType15 : (Tryd.prog.globals[25]?).map (·.type) = some 110 := by kernel_rfl
theorem cls15_of_head {W : World} {rest : List (String × DataW Unit)} (h : laidMet Tryd.prog (("concord/lexer.classes", Rows.laid_concord_lexer_classes) :: rest) W) : ClsEnv W := by
 have ht : Lib.TabIs Tryd.prog W "concord/lexer.classes" .u8 clsTab := Lib.tabIs_of_head (rest := rest) gTab15 gTabType15 Tryd.underlying110 Tryd.underlying5 (by kernel_rfl) (by kernel_rfl) h
 have hl : clsTab.length = 128 := by decide
 have hc : ∀ j, j < 128 → W.cell? ⟨25, j, none⟩ = some (.int .u8 (clsTab.getD j 0)) := fun j hj => ht.cell gTab15 j (by rw [hl]; exact hj)
 exact ⟨hc, World.block_lt_of_cell? W ⟨25, 0, none⟩ (hc 0 (by decide))⟩
theorem lawEnv_of {W : World} (h : laidMet Tryd.prog Rows.printerBackUptoRow.laid W) : ∃ ea, LawEnv W ea := by
 obtain ⟨ea, h1⟩ := errEnv_of h (by rfl)
 have h2 := cls15_of_head (rest := []) (h.filter (fun x => x.1 == "concord/lexer.classes"))
 have h3 := p10_of_head (rest := []) (h.filter (fun x => x.1 == "internal/strconv.uint64pow10"))
 have h4 := ask_of_head (rest := []) (h.filter (fun x => x.1 == "concord/printer.asks"))
 exact ⟨ea, ⟨⟨h4, h2, h3, h4.2, h2.2, h3.lt⟩, h1⟩⟩
theorem open_node_arg {H : Type} {enc : TypeId × Value → H} {W : World} {v : Value} {d : DataW H} {p : List MemPlace} (hv : Value.okWide Tryd.prog W .any 0 27 v) (h : DataW.Trod enc Tryd.prog W 0 (fun _ => true) true 27 v d p) :
  ∃ (y : NV) (t : Nd), v = y.val ∧ NdR W (fun b => b < W.heap.size) y t ∧ bkN t ≤ Rows.uptoBulk d := by
 obtain ⟨cs, rfl, hsz⟩ := okWide_struct Tryd.underlying27 hv
 obtain ⟨fuel, hf⟩ := h
 have e : (Value.agg cs).cells.toList = cs.toList := rfl
 obtain ⟨y, t, h1, h2, h3⟩ := open_node fuel _ _ hf
 refine ⟨y, t, ?_, h2, h3⟩
 have h4 : cs.toList = y.cells := by rw [← e]; exact h1
 rw [show cs = y.cells.toArray from by rw [← h4]]
 rfl
end Go.Proofs.YthcldpminmhgkaaDoor
end
section
namespace Go.Proofs.YthcldpminmhgkaaDoor
open Go.RowKit
theorem printerPlays_env {W : World} (h : laidMetH Tryd.prog Rows.printerPlaysUptoRow.laid W) : ∃ ea, LawEnv W ea := lawEnv_of h
theorem printerPlays_walk (w : World) (x y : NV) (t u : Nd) (hx : NdR w (fun b => b < w.heap.size) x t) (hy : NdR w (fun b => b < w.heap.size) y u) (hb : bkN t ≤ 1048576) (hc : bkN u ≤ 1048576) (hE : ∃ ea, LawEnv w ea) :
  Calls Tryd.prog 3 #[x.val, y.val] w fun e w' => e = .returned (.bool true) ∧ Below w.heap.size w w' := by
 obtain ⟨ea, hE⟩ := hE
 exact plays_walk t u w ea x y hx hy hb hc hE
end Go.Proofs.YthcldpminmhgkaaDoor
end
