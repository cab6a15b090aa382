/- Merged for a claim by shake.py: Jmh -/
import Derived.Test.YthcldpminmhgkaaDoorKrA
import Derived.Test.YthcldpminmhgkaaDoorKr22
import Derived.Test.YthcldpminmhgkaaDoorKr32
import Derived.Test.YthcldpminmhgkaaDoorKr34
import Derived.Test.YthcldpminmhgkaaDoorKr36
import Derived.Test.YthcldpminmhgkaaDoorKr42
set_option maxRecDepth 100000
set_option maxHeartbeats 30000000
set_option linter.unusedSimpArgs false
set_option linter.unusedVariables false
section
namespace Go.Proofs.YthcldpminmhgkaaDoor
open Go.RowKit
theorem memory_walk (t : Nd) (w : World) (ea : List Addr) (x : NV) (hx : NdR w (fun b => b < w.heap.size) x t) (hbk : bkN t ≤ 1048576) (hE : LawEnv w ea) :
  Calls Tryd.prog 6 #[x.val] w fun e w' => e = .returned (.bool true) ∧ Below w.heap.size w w' := by
 obtain ⟨kdN, flN, txN, xnN, ⟨laN, lbN, lcN⟩, ⟨raN, rbN, rcN⟩, ⟨oaN, onN, ocN⟩, ⟨kaN, knN, kcN⟩⟩ := x
 have HB_0 := LH ((Below.refl w.heap.size w).alloc (Nat.le_refl _) (.cells #[.int .i64 kdN, .string (str flN), .string (str txN), .int .i64 xnN, .bool laN, .bool lbN, .string (str lcN), .bool raN, .bool rbN, .string (str rcN), .slice oaN onN ocN, .slice kaN knN kcN] 27))
 have HE_0 := LH (hE.below HB_0.out)
 have HN_0 := LH (Blk.new w 27 #[.int .i64 kdN, .string (str flN), .string (str txN), .int .i64 xnN, .bool laN, .bool lbN, .string (str lcN), .bool raN, .bool rbN, .string (str rcN), .slice oaN onN ocN, .slice kaN knN kcN])
 have HX_0 := LH (hx.belowW HB_0.out)
 have HBK := LH hbk
 clear hx hE hbk
 unfold NV.val
 simp only []
 go_enter Tryd.func6, Tryd.ntmps6
 go_wp2_with fail
 generalize w.alloc (.cells #[.int .i64 kdN, .string (str flN), .string (str txN), .int .i64 xnN, .bool laN, .bool lbN, .string (str lcN), .bool raN, .bool rbN, .string (str rcN), .slice oaN onN ocN, .slice kaN knN kcN] 27) = w0 at *
 have HCALL := LH (fixed_any w0 ea HE_0.out)
 skip
 refine HCALL.out.mono ?_
 rintro e w1 ⟨rfl, hb⟩
 clear HCALL
 have HB_1 := LH (HB_0.out.trans (hb.mono HB_0.out.size))
 have HE_1 := LH (HE_0.out.below hb)
 have HN_1 := LH (HN_0.out.belowW hb)
 have HX_1 := LH (HX_0.out.belowW hb)
 clear HB_0 HE_0 HN_0 HX_0
 clear hb
 have nzz := HN_1.out
 obtain ⟨n0, n1, n2, n3, n4, n5, n6, n7, n8, n9, n10, n11, -, -, -, -, -, -, -, -, -, -, -, -, ln⟩ := blk12 nzz
 clear nzz
 have HCALL := LH (few_any t w1 _ _ 4000 HX_1.out (Nat.le_trans HBK.out (by decide)) (by decide))
 unfold NV.val at HCALL
 simp only [] at HCALL
 go_wp2_with fail
 refine HCALL.out.mono ?_
 rintro e w2 ⟨rfl, hb⟩
 clear HCALL
 clear n0 n1 n2 n3 n4 n5 n6 n7 n8 n9 n10 n11 ln
 have HB_2 := LH (HB_1.out.trans (hb.mono HB_1.out.size))
 have HE_2 := LH (HE_1.out.below hb)
 have HN_2 := LH (HN_1.out.belowW hb)
 have HX_2 := LH (HX_1.out.belowW hb)
 clear HB_1 HE_1 HN_1 HX_1
 clear hb
 by_cases hfew : wtN t ≤ 4000
 case neg =>
  have hd : decide (wtN t ≤ 4000) = false := decide_eq_false hfew
  go_wp2
  go_ret
  exact ⟨rfl, HB_2.out⟩
 have hd : decide (wtN t ≤ 4000) = true := decide_eq_true hfew
 have HW := LH hfew
 clear hfew
 have nzz := HN_2.out
 obtain ⟨n0, n1, n2, n3, n4, n5, n6, n7, n8, n9, n10, n11, -, -, -, -, -, -, -, -, -, -, -, -, ln⟩ := blk12 nzz
 clear nzz
 have HCALL := LH (rcheck15_any t w2 _ _ HX_2.out (Nat.le_trans HBK.out (by decide)))
 unfold NV.val at HCALL
 simp only [] at HCALL
 go_wp2_with fail
 refine HCALL.out.mono ?_
 rintro e w3 ⟨rfl, hb⟩
 clear HCALL
 clear n0 n1 n2 n3 n4 n5 n6 n7 n8 n9 n10 n11 ln
 have HB_3 := LH (HB_2.out.trans (hb.mono HB_2.out.size))
 have HE_3 := LH (HE_2.out.below hb)
 have HN_3 := LH (HN_2.out.belowW hb)
 have HX_3 := LH (HX_2.out.belowW hb)
 clear HB_2 HE_2 HN_2 HX_2
 clear hb
 clear hd
 by_cases hg : goodN t = true
 case neg =>
  rw [chkN_no (by simpa using hg)]
  go_wp2
  go_ret
  exact ⟨rfl, HB_3.out⟩
 rw [chkN_yes hg]
 have HG := LH hg
 have HKB := LH (show bkN t ≤ 300000000000 from Nat.le_trans HBK.out (by decide))
 have HGC := LH (canon_good t hg)
 have HKC := LH (show bkN (canonN t) ≤ 300000000000 from Nat.le_trans (canon_bk t) HKB.out)
 have HSH := LH (form_short hg HBK.out HW.out)
 clear hg
 have HZ_3 := LH (Below.refl w3.heap.size w3)
 have HEC := LH HE_3.out
 have HBC := LH HB_3.out
 have nzz := HN_3.out
 obtain ⟨n0, n1, n2, n3, n4, n5, n6, n7, n8, n9, n10, n11, -, -, -, -, -, -, -, -, -, -, -, -, ln⟩ := blk12 nzz
 clear nzz
 have HCALL := LH (copied_anyO t w3 _ _ HX_3.out (Nat.le_trans HBK.out (by decide)))
 unfold NV.val at HCALL
 simp only [] at HCALL
 go_wp2_with fail
 refine HCALL.out.mono ?_
 rintro e w4 ⟨hb, kdI, xnI, flI, txI, laI, lbI, lcI, raI, rbI, rcI, oaI, onI, ocI, kaI, knI, kcI, rfl, hx⟩
 clear HCALL
 clear n0 n1 n2 n3 n4 n5 n6 n7 n8 n9 n10 n11 ln
 have HB_4 := LH (HB_3.out.trans (hb.mono HB_3.out.size))
 have HE_4 := LH (HE_3.out.below hb)
 have HN_4 := LH (HN_3.out.belowW hb)
 have HX_4 := LH (HX_3.out.belowW hb)
 have HZ_4 := LH (HZ_3.out.trans (hb.mono HZ_3.out.size))
 clear HB_3 HE_3 HN_3 HX_3 HZ_3
 have HI_4 := LH hx
 clear hb hx
 obtain ⟨isI, ksI, hoi⟩ := HI_4.out.toI
 clear HI_4
 have HI_4 := LH hoi
 clear hoi
 have HY_4 := LH (Below.refl w4.heap.size w4)
 have hba := (Below.refl w4.heap.size w4).alloc (Nat.le_refl _) (.cells #[.int .i64 kdI, .string (str flI), .string (str txI), .int .i64 xnI, .bool laI, .bool lbI, .string (str lcI), .bool raI, .bool rbI, .string (str rcI), .slice oaI onI ocI, .slice kaI knI kcI] 27)
 have HBXN := LH (Blk.new w4 27 #[.int .i64 kdI, .string (str flI), .string (str txI), .int .i64 xnI, .bool laI, .bool lbI, .string (str lcI), .bool raI, .bool rbI, .string (str rcI), .slice oaI onI ocI, .slice kaI knI kcI])
 have HBSZ := LH (show w4.heap.size < (w4.alloc (.cells #[.int .i64 kdI, .string (str flI), .string (str txI), .int .i64 xnI, .bool laI, .bool lbI, .string (str lcI), .bool raI, .bool rbI, .string (str rcI), .slice oaI onI ocI, .slice kaI knI kcI] 27)).heap.size from by rw [World.size_alloc]; exact Nat.lt_succ_self _)
 have HB_5 := LH (HB_4.out.trans (hba.mono HB_4.out.size))
 have HE_5 := LH (HE_4.out.below hba)
 have HN_5 := LH (HN_4.out.belowW hba)
 have HX_5 := LH (HX_4.out.belowW hba)
 have HZ_5 := LH (HZ_4.out.trans (hba.mono HZ_4.out.size))
 have HI_5 := LH (HI_4.out.belowW hba)
 have HY_5 := LH (HY_4.out.trans (hba.mono HY_4.out.size))
 clear hba HB_4 HE_4 HN_4 HX_4 HZ_4 HI_4 HY_4
 have HJ_5 := LH HBXN.out
 clear HBXN
 have HSJ := LH HBSZ.out
 clear HBSZ
 have nzz := HN_5.out
 obtain ⟨n0, n1, n2, n3, n4, n5, n6, n7, n8, n9, n10, n11, -, -, -, -, -, -, -, -, -, -, -, -, ln⟩ := blk12 nzz
 clear nzz
 go_wp2_with fail
 generalize (w4.alloc (.cells #[.int .i64 kdI, .string (str flI), .string (str txI), .int .i64 xnI, .bool laI, .bool lbI, .string (str lcI), .bool raI, .bool rbI, .string (str rcI), .slice oaI onI ocI, .slice kaI knI kcI] 27)) = w5 at *
 have HV_5 := LH (Below.refl w5.heap.size w5)
 have HCALL := LH (rcanon_as HG.out rfl HX_5.out HKB.out)
 unfold NV.val at HCALL
 simp only [] at HCALL
 refine HCALL.out.mono ?_
 rintro e w6 ⟨hb, kdR, xnR, flR, txR, laR, lbR, lcR, raR, rbR, rcR, oaR, onR, ocR, kaR, knR, kcR, rfl, hx⟩
 clear HCALL
 clear n0 n1 n2 n3 n4 n5 n6 n7 n8 n9 n10 n11 ln
 have HB_6 := LH (HB_5.out.trans (hb.mono HB_5.out.size))
 have HE_6 := LH (HE_5.out.below hb)
 have HN_6 := LH (HN_5.out.belowW hb)
 have HX_6 := LH (HX_5.out.belowW hb)
 have HZ_6 := LH (HZ_5.out.trans (hb.mono HZ_5.out.size))
 have HI_6 := LH (HI_5.out.belowW hb)
 have HY_6 := LH (HY_5.out.trans (hb.mono HY_5.out.size))
 have HJ_6 := LH (HJ_5.out.belowW hb)
 have HV_6 := LH (HV_5.out.trans (hb.mono HV_5.out.size))
 clear HB_5 HE_5 HN_5 HX_5 HZ_5 HI_5 HY_5 HJ_5 HV_5
 have HR_6 := LH hx
 clear hb hx
 have hba := (Below.refl w6.heap.size w6).alloc (Nat.le_refl _) (.cells #[.int .i64 kdR, .string (str flR), .string (str txR), .int .i64 xnR, .bool laR, .bool lbR, .string (str lcR), .bool raR, .bool rbR, .string (str rcR), .slice oaR onR ocR, .slice kaR knR kcR] 27)
 have HBXN := LH (Blk.new w6 27 #[.int .i64 kdR, .string (str flR), .string (str txR), .int .i64 xnR, .bool laR, .bool lbR, .string (str lcR), .bool raR, .bool rbR, .string (str rcR), .slice oaR onR ocR, .slice kaR knR kcR])
 have HBSZ := LH (show w6.heap.size < (w6.alloc (.cells #[.int .i64 kdR, .string (str flR), .string (str txR), .int .i64 xnR, .bool laR, .bool lbR, .string (str lcR), .bool raR, .bool rbR, .string (str rcR), .slice oaR onR ocR, .slice kaR knR kcR] 27)).heap.size from by rw [World.size_alloc]; exact Nat.lt_succ_self _)
 have HB_7 := LH (HB_6.out.trans (hba.mono HB_6.out.size))
 have HE_7 := LH (HE_6.out.below hba)
 have HN_7 := LH (HN_6.out.belowW hba)
 have HX_7 := LH (HX_6.out.belowW hba)
 have HZ_7 := LH (HZ_6.out.trans (hba.mono HZ_6.out.size))
 have HI_7 := LH (HI_6.out.belowW hba)
 have HY_7 := LH (HY_6.out.trans (hba.mono HY_6.out.size))
 have HJ_7 := LH (HJ_6.out.belowW hba)
 have HV_7 := LH (HV_6.out.trans (hba.mono HV_6.out.size))
 have HR_7 := LH (HR_6.out.belowW hba)
 clear hba HB_6 HE_6 HN_6 HX_6 HZ_6 HI_6 HY_6 HJ_6 HV_6 HR_6
 have HQ_7 := LH HBXN.out
 clear HBXN
 clear HBSZ
 have jzz := HJ_7.out
 obtain ⟨j0, j1, j2, j3, j4, j5, j6, j7, j8, j9, j10, j11, -, -, -, -, -, -, -, -, -, -, -, -, lj⟩ := blk12 jzz
 clear jzz
 go_wp2_with fail
 generalize (w6.alloc (.cells #[.int .i64 kdR, .string (str flR), .string (str txR), .int .i64 xnR, .bool laR, .bool lbR, .string (str lcR), .bool raR, .bool rbR, .string (str rcR), .slice oaR onR ocR, .slice kaR knR kcR] 27)) = w7 at *
 have HSA0 := LH (show w4.heap.size < w7.heap.size from Nat.lt_of_lt_of_le HSJ.out HV_7.out.size)
 have HSZA := LH (show w3.heap.size ≤ w7.heap.size from HZ_7.out.size)
 have HCALL := LH (pcanonw_yesO t HG.out w7 _ _ ea 17 HI_7.out.rd (Nat.le_trans HBK.out (by decide)) HE_7.out.pr.asks HE_7.out.node)
 unfold NV.val at HCALL
 simp only [] at HCALL
 refine HCALL.out.mono ?_
 rintro e w8 ⟨hb, kdA, xnA, flA, txA, laA, lbA, lcA, raA, rbA, rcA, oaA, onA, ocA, kaA, knA, kcA, rfl, hx⟩
 clear HCALL
 clear j0 j1 j2 j3 j4 j5 j6 j7 j8 j9 j10 j11 lj
 have HB_8 := LH (HB_7.out.trans (hb.mono HB_7.out.size))
 have HE_8 := LH (HE_7.out.below hb)
 have HN_8 := LH (HN_7.out.belowW hb)
 have HX_8 := LH (HX_7.out.belowW hb)
 have HZ_8 := LH (HZ_7.out.trans (hb.mono HZ_7.out.size))
 have HI_8 := LH (HI_7.out.belowW hb)
 have HY_8 := LH (HY_7.out.trans (hb.mono HY_7.out.size))
 have HJ_8 := LH (HJ_7.out.belowW hb)
 have HV_8 := LH (HV_7.out.trans (hb.mono HV_7.out.size))
 have HR_8 := LH (HR_7.out.belowW hb)
 have HQ_8 := LH (HQ_7.out.belowW hb)
 clear HB_7 HE_7 HN_7 HX_7 HZ_7 HI_7 HY_7 HJ_7 HV_7 HR_7 HQ_7
 have HA_8 := LH hx
 clear hb hx
 obtain ⟨isA, ksA, hoi⟩ := HA_8.out.toI
 clear HA_8
 have HA_8 := LH hoi
 clear hoi
 have HSA := LH (show w4.heap.size < w7.heap.size from HSA0.out)
 have HU_8 := LH (Below.refl w8.heap.size w8)
 have hba := (Below.refl w8.heap.size w8).alloc (Nat.le_refl _) (.cells #[.int .i64 kdA, .string (str flA), .string (str txA), .int .i64 xnA, .bool laA, .bool lbA, .string (str lcA), .bool raA, .bool rbA, .string (str rcA), .slice oaA onA ocA, .slice kaA knA kcA] 27)
 have HBXN := LH (Blk.new w8 27 #[.int .i64 kdA, .string (str flA), .string (str txA), .int .i64 xnA, .bool laA, .bool lbA, .string (str lcA), .bool raA, .bool rbA, .string (str rcA), .slice oaA onA ocA, .slice kaA knA kcA])
 have HBSZ := LH (show w8.heap.size < (w8.alloc (.cells #[.int .i64 kdA, .string (str flA), .string (str txA), .int .i64 xnA, .bool laA, .bool lbA, .string (str lcA), .bool raA, .bool rbA, .string (str rcA), .slice oaA onA ocA, .slice kaA knA kcA] 27)).heap.size from by rw [World.size_alloc]; exact Nat.lt_succ_self _)
 have HB_9 := LH (HB_8.out.trans (hba.mono HB_8.out.size))
 have HE_9 := LH (HE_8.out.below hba)
 have HN_9 := LH (HN_8.out.belowW hba)
 have HX_9 := LH (HX_8.out.belowW hba)
 have HZ_9 := LH (HZ_8.out.trans (hba.mono HZ_8.out.size))
 have HI_9 := LH (HI_8.out.belowW hba)
 have HY_9 := LH (HY_8.out.trans (hba.mono HY_8.out.size))
 have HJ_9 := LH (HJ_8.out.belowW hba)
 have HV_9 := LH (HV_8.out.trans (hba.mono HV_8.out.size))
 have HR_9 := LH (HR_8.out.belowW hba)
 have HQ_9 := LH (HQ_8.out.belowW hba)
 have HA_9 := LH (HA_8.out.belowW hba)
 have HU_9 := LH (HU_8.out.trans (hba.mono HU_8.out.size))
 clear hba HB_8 HE_8 HN_8 HX_8 HZ_8 HI_8 HY_8 HJ_8 HV_8 HR_8 HQ_8 HA_8 HU_8
 have HP_9 := LH HBXN.out
 clear HBXN
 clear HBSZ
 have jzz := HJ_9.out
 obtain ⟨j0, j1, j2, j3, j4, j5, j6, j7, j8, j9, j10, j11, -, -, -, -, -, -, -, -, -, -, -, -, lj⟩ := blk12 jzz
 clear jzz
 go_wp2_with fail
 generalize (w8.alloc (.cells #[.int .i64 kdA, .string (str flA), .string (str txA), .int .i64 xnA, .bool laA, .bool lbA, .string (str lcA), .bool raA, .bool rbA, .string (str rcA), .slice oaA onA ocA, .slice kaA knA kcA] 27)) = w9 at *
 have HSD := LH (show w8.heap.size ≤ w9.heap.size from HU_9.out.size)
 have HSZD := LH (show w3.heap.size ≤ w9.heap.size from HZ_9.out.size)
 have HSVD := LH (show w4.heap.size < w9.heap.size from Nat.lt_of_lt_of_le HSJ.out HV_9.out.size)
 have HCALL := LH (pcanonw_yesO t HG.out w9 _ _ ea 17 HI_9.out.rd (Nat.le_trans HBK.out (by decide)) HE_9.out.pr.asks HE_9.out.node)
 unfold NV.val at HCALL
 simp only [] at HCALL
 refine HCALL.out.mono ?_
 rintro e w10 ⟨hb, kdD, xnD, flD, txD, laD, lbD, lcD, raD, rbD, rcD, oaD, onD, ocD, kaD, knD, kcD, rfl, hx⟩
 clear HCALL
 clear j0 j1 j2 j3 j4 j5 j6 j7 j8 j9 j10 j11 lj
 have HB_10 := LH (HB_9.out.trans (hb.mono HB_9.out.size))
 have HE_10 := LH (HE_9.out.below hb)
 have HN_10 := LH (HN_9.out.belowW hb)
 have HX_10 := LH (HX_9.out.belowW hb)
 have HZ_10 := LH (HZ_9.out.trans (hb.mono HZ_9.out.size))
 have HI_10 := LH (HI_9.out.belowW hb)
 have HY_10 := LH (HY_9.out.trans (hb.mono HY_9.out.size))
 have HJ_10 := LH (HJ_9.out.belowW hb)
 have HV_10 := LH (HV_9.out.trans (hb.mono HV_9.out.size))
 have HR_10 := LH (HR_9.out.belowW hb)
 have HQ_10 := LH (HQ_9.out.belowW hb)
 have HA_10 := LH (HA_9.out.belowW hb)
 have HU_10 := LH (HU_9.out.trans (hb.mono HU_9.out.size))
 have HP_10 := LH (HP_9.out.belowW hb)
 clear HB_9 HE_9 HN_9 HX_9 HZ_9 HI_9 HY_9 HJ_9 HV_9 HR_9 HQ_9 HA_9 HU_9 HP_9
 have HD_10 := LH hx
 clear hb hx
 obtain ⟨isD, ksD, hoi⟩ := HD_10.out.toI
 clear HD_10
 have HD_10 := LH hoi
 clear hoi
 have hba := (Below.refl w10.heap.size w10).alloc (Nat.le_refl _) (.cells #[.int .i64 kdD, .string (str flD), .string (str txD), .int .i64 xnD, .bool laD, .bool lbD, .string (str lcD), .bool raD, .bool rbD, .string (str rcD), .slice oaD onD ocD, .slice kaD knD kcD] 27)
 have HBXN := LH (Blk.new w10 27 #[.int .i64 kdD, .string (str flD), .string (str txD), .int .i64 xnD, .bool laD, .bool lbD, .string (str lcD), .bool raD, .bool rbD, .string (str rcD), .slice oaD onD ocD, .slice kaD knD kcD])
 have HBSZ := LH (show w10.heap.size < (w10.alloc (.cells #[.int .i64 kdD, .string (str flD), .string (str txD), .int .i64 xnD, .bool laD, .bool lbD, .string (str lcD), .bool raD, .bool rbD, .string (str rcD), .slice oaD onD ocD, .slice kaD knD kcD] 27)).heap.size from by rw [World.size_alloc]; exact Nat.lt_succ_self _)
 have HB_11 := LH (HB_10.out.trans (hba.mono HB_10.out.size))
 have HE_11 := LH (HE_10.out.below hba)
 have HN_11 := LH (HN_10.out.belowW hba)
 have HX_11 := LH (HX_10.out.belowW hba)
 have HZ_11 := LH (HZ_10.out.trans (hba.mono HZ_10.out.size))
 have HI_11 := LH (HI_10.out.belowW hba)
 have HY_11 := LH (HY_10.out.trans (hba.mono HY_10.out.size))
 have HJ_11 := LH (HJ_10.out.belowW hba)
 have HV_11 := LH (HV_10.out.trans (hba.mono HV_10.out.size))
 have HR_11 := LH (HR_10.out.belowW hba)
 have HQ_11 := LH (HQ_10.out.belowW hba)
 have HA_11 := LH (HA_10.out.belowW hba)
 have HU_11 := LH (HU_10.out.trans (hba.mono HU_10.out.size))
 have HP_11 := LH (HP_10.out.belowW hba)
 have HD_11 := LH (HD_10.out.belowW hba)
 clear hba HB_10 HE_10 HN_10 HX_10 HZ_10 HI_10 HY_10 HJ_10 HV_10 HR_10 HQ_10 HA_10 HU_10 HP_10 HD_10
 have HO_11 := LH HBXN.out
 clear HBXN
 clear HBSZ
 clear HY_11
 clear HU_11
 clear HV_11
 have pzz := HP_11.out
 obtain ⟨p0, p1, p2, p3, p4, p5, p6, p7, p8, p9, p10, p11, -, -, -, -, -, -, -, -, -, -, -, -, lp⟩ := blk12 pzz
 clear pzz
 have qzz := HQ_11.out
 obtain ⟨q0, q1, q2, q3, q4, q5, q6, q7, q8, q9, q10, q11, -, -, -, -, -, -, -, -, -, -, -, -, lq⟩ := blk12 qzz
 clear qzz
 go_wp2_with fail
 generalize (w10.alloc (.cells #[.int .i64 kdD, .string (str flD), .string (str txD), .int .i64 xnD, .bool laD, .bool lbD, .string (str lcD), .bool raD, .bool rbD, .string (str rcD), .slice oaD onD ocD, .slice kaD knD kcD] 27)) = w11 at *
 have HCALL := LH (rsame_as (same_self (canonN t)) HA_11.out.rd HR_11.out)
 unfold NV.val at HCALL
 simp only [] at HCALL
 skip
 refine HCALL.out.mono ?_
 rintro e w12 ⟨rfl, hb⟩
 clear HCALL
 clear p0 p1 p2 p3 p4 p5 p6 p7 p8 p9 p10 p11 lp
 clear q0 q1 q2 q3 q4 q5 q6 q7 q8 q9 q10 q11 lq
 have HB_12 := LH (HB_11.out.trans (hb.mono HB_11.out.size))
 have HE_12 := LH (HE_11.out.below hb)
 have HN_12 := LH (HN_11.out.belowW hb)
 have HX_12 := LH (HX_11.out.belowW hb)
 have HZ_12 := LH (HZ_11.out.trans (hb.mono HZ_11.out.size))
 have HI_12 := LH (HI_11.out.belowW hb)
 have HJ_12 := LH (HJ_11.out.belowW hb)
 have HR_12 := LH (HR_11.out.belowW hb)
 have HQ_12 := LH (HQ_11.out.belowW hb)
 have HA_12 := LH (HA_11.out.belowW hb)
 have HP_12 := LH (HP_11.out.belowW hb)
 have HD_12 := LH (HD_11.out.belowW hb)
 have HO_12 := LH (HO_11.out.belowW hb)
 clear HB_11 HE_11 HN_11 HX_11 HZ_11 HI_11 HJ_11 HR_11 HQ_11 HA_11 HP_11 HD_11 HO_11
 clear hb
 have pzz := HO_12.out
 obtain ⟨p0, p1, p2, p3, p4, p5, p6, p7, p8, p9, p10, p11, -, -, -, -, -, -, -, -, -, -, -, -, lp⟩ := blk12 pzz
 clear pzz
 have qzz := HQ_12.out
 obtain ⟨q0, q1, q2, q3, q4, q5, q6, q7, q8, q9, q10, q11, -, -, -, -, -, -, -, -, -, -, -, -, lq⟩ := blk12 qzz
 clear qzz
 have HCALL := LH (rsame_as (same_self (canonN t)) HD_12.out.rd HR_12.out)
 unfold NV.val at HCALL
 simp only [] at HCALL
 go_wp2_with fail
 refine HCALL.out.mono ?_
 rintro e w13 ⟨rfl, hb⟩
 clear HCALL
 clear p0 p1 p2 p3 p4 p5 p6 p7 p8 p9 p10 p11 lp
 clear q0 q1 q2 q3 q4 q5 q6 q7 q8 q9 q10 q11 lq
 have HB_13 := LH (HB_12.out.trans (hb.mono HB_12.out.size))
 have HE_13 := LH (HE_12.out.below hb)
 have HN_13 := LH (HN_12.out.belowW hb)
 have HX_13 := LH (HX_12.out.belowW hb)
 have HZ_13 := LH (HZ_12.out.trans (hb.mono HZ_12.out.size))
 have HI_13 := LH (HI_12.out.belowW hb)
 have HJ_13 := LH (HJ_12.out.belowW hb)
 have HR_13 := LH (HR_12.out.belowW hb)
 have HQ_13 := LH (HQ_12.out.belowW hb)
 have HA_13 := LH (HA_12.out.belowW hb)
 have HP_13 := LH (HP_12.out.belowW hb)
 have HD_13 := LH (HD_12.out.belowW hb)
 have HO_13 := LH (HO_12.out.belowW hb)
 clear HB_12 HE_12 HN_12 HX_12 HZ_12 HI_12 HJ_12 HR_12 HQ_12 HA_12 HP_12 HD_12 HO_12
 clear hb
 have pzz := HJ_13.out
 obtain ⟨p0, p1, p2, p3, p4, p5, p6, p7, p8, p9, p10, p11, -, -, -, -, -, -, -, -, -, -, -, -, lp⟩ := blk12 pzz
 clear pzz
 have qzz := HN_13.out
 obtain ⟨q0, q1, q2, q3, q4, q5, q6, q7, q8, q9, q10, q11, -, -, -, -, -, -, -, -, -, -, -, -, lq⟩ := blk12 qzz
 clear qzz
 have HCALL := LH (rsame_as (same_self t) HI_13.out.rd HX_13.out)
 unfold NV.val at HCALL
 simp only [] at HCALL
 go_wp2_with fail
 refine HCALL.out.mono ?_
 rintro e w14 ⟨rfl, hb⟩
 clear HCALL
 clear p0 p1 p2 p3 p4 p5 p6 p7 p8 p9 p10 p11 lp
 clear q0 q1 q2 q3 q4 q5 q6 q7 q8 q9 q10 q11 lq
 have HB_14 := LH (HB_13.out.trans (hb.mono HB_13.out.size))
 have HE_14 := LH (HE_13.out.below hb)
 have HN_14 := LH (HN_13.out.belowW hb)
 have HX_14 := LH (HX_13.out.belowW hb)
 have HZ_14 := LH (HZ_13.out.trans (hb.mono HZ_13.out.size))
 have HI_14 := LH (HI_13.out.belowW hb)
 have HJ_14 := LH (HJ_13.out.belowW hb)
 have HR_14 := LH (HR_13.out.belowW hb)
 have HQ_14 := LH (HQ_13.out.belowW hb)
 have HA_14 := LH (HA_13.out.belowW hb)
 have HP_14 := LH (HP_13.out.belowW hb)
 have HD_14 := LH (HD_13.out.belowW hb)
 have HO_14 := LH (HO_13.out.belowW hb)
 clear HB_13 HE_13 HN_13 HX_13 HZ_13 HI_13 HJ_13 HR_13 HQ_13 HA_13 HP_13 HD_13 HO_13
 clear hb
 clear HR_14
 clear HQ_14
 clear HX_14
 have HSZ0 := LH (show w3.heap.size ≤ w14.heap.size from HZ_14.out.size)
 have HLN := LH (kids_len HA_14.out HD_14.out HI_14.out HKC.out HKC.out HKB.out rfl)
 obtain ⟨s, hs⟩ : ∃ s, isA ++ isD ++ isI = s := ⟨_, rfl⟩
 obtain ⟨ks, hks⟩ : ∃ ks, ksA ++ ksD ++ ksI = ks := ⟨_, rfl⟩
 have HSS := LH hs; have HKS := LH hks
 have HSK := LH (show ksA.map (·.1) ++ ksD.map (·.1) ++ ksI.map (·.1) = ks.map (·.1) from by rw [← hks, List.map_append, List.map_append])
 rw [hks] at HLN
 have HSL := LH (show s.length ≤ 900000000000 from by have h := HLN.out.2; rw [← hs, List.length_append, List.length_append]; omega)
 have HKL := LH (show (ks.map (·.1)).length ≤ 900000000000 from by have h := HLN.out.2; rw [← hks, List.length_map, List.length_append, List.length_append]; omega)
 clear hs hks
 have pzz := HP_14.out
 obtain ⟨p0, p1, p2, p3, p4, p5, p6, p7, p8, p9, p10, p11, -, -, -, -, -, -, -, -, -, -, -, -, lp⟩ := blk12 pzz
 clear pzz
 have HCALL := LH (gather_as (B := w14.heap.size) (li := []) (lk := []) HA_14.out.nd (OwnL.nil goS _ _) (OwnL.nil gkS _ _) (Nat.le_refl _) (by have h := HLN.out.2; simp only [List.length_nil]; omega) (by have h := HLN.out.2; simp only [List.length_nil]; omega) (List.nil_append _) (List.nil_append _))
 unfold NV.val at HCALL
 simp only [] at HCALL
 go_wp2_with fail
 refine HCALL.out.mono ?_
 rintro e w15 ⟨ua15, un15, uc15, va15, vn15, vc15, rfl, ho, hv, hg⟩
 clear HCALL
 clear p0 p1 p2 p3 p4 p5 p6 p7 p8 p9 p10 p11 lp
 have hb := hg.bel
 have HB_15 := LH (HB_14.out.trans (hb.mono HB_14.out.size))
 have HE_15 := LH (HE_14.out.below hb)
 have HN_15 := LH (HN_14.out.belowW hb)
 have HZ_15 := LH (HZ_14.out.trans (hb.mono HZ_14.out.size))
 have HI_15 := LH (HI_14.out.belowW hb)
 have HJ_15 := LH (HJ_14.out.belowW hb)
 have HA_15 := LH (HA_14.out.belowW hb)
 have HP_15 := LH (HP_14.out.belowW hb)
 have HD_15 := LH (HD_14.out.belowW hb)
 have HO_15 := LH (HO_14.out.belowW hb)
 have HC_15 := LH hb; have HU_15 := LH ho; have HM_15 := LH hv
 clear hb ho hv hg
 have pzz := HO_15.out
 obtain ⟨p0, p1, p2, p3, p4, p5, p6, p7, p8, p9, p10, p11, -, -, -, -, -, -, -, -, -, -, -, -, lp⟩ := blk12 pzz
 clear pzz
 have HCALL := LH (gather_as (B := w14.heap.size) (li := isA) (lk := ksA.map (·.1)) HD_15.out.nd HU_15.out HM_15.out HC_15.out.size (by have h := HLN.out.2; omega) (by have h := HLN.out.2; rw [List.length_map]; omega) rfl rfl)
 unfold NV.val at HCALL
 simp only [] at HCALL
 go_wp2_with fail
 refine HCALL.out.mono ?_
 rintro e w16 ⟨ua16, un16, uc16, va16, vn16, vc16, rfl, ho, hv, hg⟩
 clear HCALL
 clear p0 p1 p2 p3 p4 p5 p6 p7 p8 p9 p10 p11 lp
 have hb := HC_15.out.trans hg.bel
 have HB_16 := LH (HB_14.out.trans (hb.mono HB_14.out.size))
 have HE_16 := LH (HE_14.out.below hb)
 have HN_16 := LH (HN_14.out.belowW hb)
 have HZ_16 := LH (HZ_14.out.trans (hb.mono HZ_14.out.size))
 have HI_16 := LH (HI_14.out.belowW hb)
 have HJ_16 := LH (HJ_14.out.belowW hb)
 have HA_16 := LH (HA_14.out.belowW hb)
 have HP_16 := LH (HP_14.out.belowW hb)
 have HD_16 := LH (HD_14.out.belowW hb)
 have HO_16 := LH (HO_14.out.belowW hb)
 clear HB_15 HE_15 HN_15 HZ_15 HI_15 HJ_15 HA_15 HP_15 HD_15 HO_15 HC_15 HU_15 HM_15
 have HC_16 := LH hb; have HU_16 := LH ho; have HM_16 := LH hv
 clear hb ho hv hg
 have pzz := HJ_16.out
 obtain ⟨p0, p1, p2, p3, p4, p5, p6, p7, p8, p9, p10, p11, -, -, -, -, -, -, -, -, -, -, -, -, lp⟩ := blk12 pzz
 clear pzz
 have HCALL := LH (gather_as (B := w14.heap.size) (li := isA ++ isD) (lk := ksA.map (·.1) ++ ksD.map (·.1)) HI_16.out.nd HU_16.out HM_16.out HC_16.out.size (by have h := HLN.out.2; rw [List.length_append]; omega) (by have h := HLN.out.2; rw [List.length_append, List.length_map, List.length_map]; omega) HSS.out HSK.out)
 unfold NV.val at HCALL
 simp only [] at HCALL
 go_wp2_with fail
 refine HCALL.out.mono ?_
 rintro e w17 ⟨ua17, un17, uc17, va17, vn17, vc17, rfl, ho, hv, hg⟩
 clear HCALL
 clear p0 p1 p2 p3 p4 p5 p6 p7 p8 p9 p10 p11 lp
 have hb := HC_16.out.trans hg.bel
 have HB_17 := LH (HB_14.out.trans (hb.mono HB_14.out.size))
 have HE_17 := LH (HE_14.out.below hb)
 have HN_17 := LH (HN_14.out.belowW hb)
 have HZ_17 := LH (HZ_14.out.trans (hb.mono HZ_14.out.size))
 have HI_17 := LH (HI_14.out.belowW hb)
 have HJ_17 := LH (HJ_14.out.belowW hb)
 have HA_17 := LH (HA_14.out.belowW hb)
 have HP_17 := LH (HP_14.out.belowW hb)
 have HD_17 := LH (HD_14.out.belowW hb)
 have HO_17 := LH (HO_14.out.belowW hb)
 clear HB_16 HE_16 HN_16 HZ_16 HI_16 HJ_16 HA_16 HP_16 HD_16 HO_16 HC_16 HU_16 HM_16
 have HC_17 := LH hb; have HU_17 := LH ho; have HM_17 := LH hv
 clear hb ho hv hg
 clear HB_14 HE_14 HN_14 HZ_14 HI_14 HJ_14 HA_14 HP_14 HD_14 HO_14
 have HZ0 := LH (show w3.heap.size ≤ w14.heap.size from HSZ0.out)
 obtain ⟨C, hC, hCl⟩ := ints_many HA_17.out HD_17.out HI_17.out (Nat.le_of_lt HSA.out) HSD.out (Nat.le_of_lt HSVD.out) HSZA.out HSZD.out (Nat.le_refl _) HKC.out HKC.out HKB.out HSS.out
 have HMI := LH hC
 have HMK := LH (kids_many HA_17.out HD_17.out HI_17.out (Nat.le_of_lt HSA.out) HSD.out (Nat.le_of_lt HSVD.out) HSZA.out HSZD.out (Nat.le_refl _) HKS.out)
 have HCALL := LH (ownInts_full (HU_17.out.more HZ0.out) HMI.out (fun q => Nat.le_trans (hCl q) (by decide)) HZ_17.out.size (Nat.le_trans HSL.out (by decide)))
 clear hC hCl
 go_wp2_with fail
 refine HCALL.out.mono ?_
 rintro e w18 ⟨rfl, hb, hkt, gl, DD, hgr⟩
 clear HCALL
 have HZ_18 := LH (HZ_17.out.trans hb)
 have HJ_18 := LH (show Blk w18 w4.heap.size 27 #[.int .i64 kdI, .string (str flI), .string (str txI), .int .i64 xnI, .bool laI, .bool lbI, .string (str lcI), .bool raI, .bool rbI, .string (str rcI), .slice oaI onI ocI, .slice kaI knI kcI] from hkt.blk HJ_17.out (by decide))
 have HMK4 := LH (HMK.out.kty hkt (by decide))
 have HM4 := LH ((HM_17.out.more HZ0.out).kty hkt (by decide))
 have HGR := LH hgr
 have HFJ := LH (show ∀ u ∈ ks.map (·.1), u.val.ownBlock ≠ some w4.heap.size from fun u hu e => by
  obtain ⟨z, hz, rfl⟩ := List.mem_map.1 hu
  rw [← HKS.out] at hz
  have h1 := HSA.out
  have h2 := HSVD.out
  rcases List.mem_append.1 hz with hz | hz
  ·rcases List.mem_append.1 hz with hz | hz
   ·have := HA_17.out.h2 z hz _ e
    omega
   ·have := HD_17.out.h2 z hz _ e
    omega
  ·have := HI_17.out.h2 z hz _ e
   omega)
 have HI3 := LH HI_17.out
 clear hb hkt hgr HMI HB_17 HE_17 HN_17 HZ_17 HI_17 HJ_17 HA_17 HP_17 HD_17 HO_17 HC_17 HU_17 HM_17
 obtain ⟨sk, hsk⟩ : ∃ sk, sk = ks.map (·.1) := ⟨_, rfl⟩
 have HSKQ := LH hsk
 rw [← hsk] at HM4 HMK4 HFJ HKL
 have hskl := HKL.out
 have HCL := LH (show ∀ q, (kC ks q).length ≤ 300000000000 from HLN.out.1)
 have hvn : vn17 = sk.length := by obtain ⟨A, c, e, _, _⟩ := HM4.out.form; injection e
 subst hvn
 have hB4 : w3.heap.size ≤ w18.heap.size := HZ_18.out.size
 have HB4 := LH hB4
 clear hsk
 go_wp2
 go_loopw [96] (fun iv wr => ∃ k : Nat, k ≤ sk.length ∧ iv = .int .i64 (k : Int) ∧ N1 w18 w3.heap.size (.slice va17 sk.length vc17) sk (kC ks) k 0 wr) (fun iv _ => sk.length - (intOf iv).toNat)
 case atStart => exact ⟨0, by omega, rfl, kC ks, fun _ => SameBut.refl _, fun q hq => by omega, fun i hi => by omega, HMK4.out, HM4.out, Below.refl _ _, fun _ _ _ => rfl⟩
 case round =>
  obtain ⟨k, hk, rfl, hmk⟩ := hrel
  by_cases hlt : k < sk.length
  ·have HK := LH hmk
   obtain ⟨g, hge, z0, hg0⟩ := at_gk hmk.outer hlt
   subst hge
   have ht : sk[k]? = some sk[k] := List.getElem?_eq_getElem hlt
   have HL := LH (hmk.len ht)
   have HT := LH ht
   have hcl := HCL.out k
   rw [← HL.out] at hcl
   clear hmk ht
   generalize sk[k] = tt at *
   obtain ⟨ta, tn, tc⟩ := tt
   simp only [] at hcl z0
   go_wp2
   go_loopw [103] (fun iv wx => ∃ j : Nat, j ≤ tn ∧ iv = .int .i64 (j : Int) ∧ N1 w18 w3.heap.size (.slice (some ⟨g, 0, none⟩) sk.length vc17) sk (kC ks) k j wx) (fun iv _ => tn - (intOf iv).toNat)
   case atStart => exact ⟨0, by omega, rfl, HK.out⟩
   case round =>
    obtain ⟨j, hj, rfl, hmj⟩ := hrel
    clear z0 hg0
    by_cases hjt : j < tn
    ·have HJ1 := LH hmj
     have hjc : j < (kC ks k).length := by have := HL.out; omega
     obtain ⟨b, x, rfl, hb0, z1, f1⟩ := hmj.cell HT.out hjc
     have HP := LH (hmj.put HB4.out HT.out hjc)
     have hw1 : IntKind.i64.wrap (1000003 * (k : Int)) = 1000003 * (k : Int) := wrap15_i64 _ (by omega) (by omega)
     have hw2 : IntKind.i64.wrap (1000003 * (k : Int) + (j : Int)) = nkF k j := by unfold nkF; exact wrap15_i64 _ (by omega) (by omega)
     clear hmj
     go_wp2
     go_roundw
     case rel => exact ⟨j + 1, by omega, by go_num, HP.out⟩
     case measure => simp [intOf]; omega
    ·have HP := LH (hmj.next (by have := HL.out; omega))
     clear hmj
     go_wp2
     go_roundw
     case rel => exact ⟨k + 1, by omega, by go_num, HP.out⟩
     case measure => simp [intOf]; omega
  ·have hks : k = sk.length := by omega
   obtain ⟨C', hc1, hc2, -, hc4, hc5, hc6, hc7⟩ := hmk
   have HC1 := LH hc1
   have HC2 := LH (show ∀ q i x, (C' q)[i]? = some x → q < sk.length → x.n = nkF q i from fun q i x hx hq => hc2 q (by omega) i x hx)
   have HN2 := LH (N2.start HB4.out hc4 hc5 hc6 hc7)
   have HCL2 := LH (show ∀ q, (C' q).length ≤ 300000000000 from fun q => by rw [(hc1 q).1]; exact HCL.out q)
   clear hc1 hc2 hc4 hc5 hc6 hc7 hks
   go_wp2
   obtain ⟨wa, rfl⟩ : ∃ wa, wa = wr := ⟨_, rfl⟩
   go_loopw [118] (fun iv wx => ∃ i : Nat, i ≤ sk.length ∧ iv = .int .i64 (i : Int) ∧ N2 w18 w3.heap.size (.slice va17 sk.length vc17) sk C' i wx) (fun iv _ => sk.length - (intOf iv).toNat)
   case atStart => exact ⟨0, by omega, rfl, HN2.out⟩
   case round =>
    clear HN2
    obtain ⟨i, hi, rfl, hN⟩ := hrel
    by_cases hlt2 : i < sk.length
    ·have HNI := LH hN
     obtain ⟨g, hge, z0, hg0⟩ := at_gk hN.outer hlt2
     subst hge
     have ht : sk[i]? = some sk[i] := List.getElem?_eq_getElem hlt2
     have HN3 := LH (N3.start hN ht)
     have hcl := HCL2.out i
     clear hN ht
     generalize sk[i] = tt at *
     obtain ⟨ta, tn, tc⟩ := tt
     simp only [SlV.val] at z0 HN3
     go_wp2
     obtain ⟨wb, rfl⟩ : ∃ wb, wb = wr := ⟨_, rfl⟩
     go_loopw [17, 16] (fun jv vv wx => ∃ j : Nat, j ≤ 16 ∧ jv = .int .i64 (j : Int) ∧ (∃ ua un uc, vv = .slice ua un uc) ∧ N3 w18 w3.heap.size (.slice (some ⟨g, 0, none⟩) sk.length vc17) sk C' i vv j wx) (fun jv _ _ => 16 - (intOf jv).toNat)
     case atStart => exact ⟨0, by omega, rfl, ⟨ta, tn, tc, rfl⟩, HN3.out⟩
     case round =>
      clear HN3 z0 hg0
      obtain ⟨j, hj, rfl, ⟨ua, un, uc, rfl⟩, hN⟩ := hrel
      by_cases hj16 : j < 16
      ·obtain ⟨E, hE, ho⟩ := hN.vown
       have HN3 := LH hN; have HE3 := LH hE
       have hkd : decide ((j : Int) < 16) = true := decide_eq_true (by omega)
       obtain ⟨z1, hz1⟩ : ∃ z, IntKind.i64.wrap (-1000003 * (i : Int)) = z := ⟨_, rfl⟩
       obtain ⟨z2, hz2⟩ : ∃ z, IntKind.i64.wrap (z1 - (j : Int)) = z := ⟨_, rfl⟩
       obtain ⟨z3, hz3⟩ : ∃ z, IntKind.i64.wrap (z2 - 1) = z := ⟨_, rfl⟩
       have hba := (Below.refl wr.heap.size wr).alloc (Nat.le_refl _) (.cells #[.int .i64 0, .string ⟨#[]⟩, .string ⟨#[]⟩, .int .i64 z3, .bool false, .bool false, .string ⟨#[]⟩, .bool false, .bool false, .string ⟨#[]⟩, .slice none 0 0, .slice none 0 0] 27)
       have HA3 := LH (hN.below hba)
       have HO3 := LH (ho.below hba)
       have hBa : w3.heap.size ≤ (wr.alloc (.cells #[.int .i64 0, .string ⟨#[]⟩, .string ⟨#[]⟩, .int .i64 z3, .bool false, .bool false, .string ⟨#[]⟩, .bool false, .bool false, .string ⟨#[]⟩, .slice none 0 0, .slice none 0 0] 27)).heap.size := Nat.le_trans (Nat.le_trans HB4.out hN.base.bel.size) hba.size
       have hapl : (C' i ++ E).length + 1 ≤ 970000000000 := by rw [List.length_append]; omega
       clear hN hE ho hba
       go_wp2_with (refine OwnL.appendTo ndOk HO3.out ⟨0, [], [], z3, bd0, bd0, ⟨none, 0, 0⟩, ⟨none, 0, 0⟩⟩ wr.heap.size rfl _ _ rfl rfl rfl (fun j u hj => by rw [World.cell?_alloc_new]; exact (List.getElem?_toArray).trans hj) hBa hapl (fun g6 c6 w6 h2 h3 h3k h4 h5 h6 => ?_); have HS6 := LH (HA3.out.step HE3.out HO3.out h2 h3 h3k h4 h6); clear h2 h3 h3k h4 h5 h6)
       go_roundw
       case rel => exact ⟨j + 1, by omega, by go_num, ⟨_, _, _, rfl⟩, (by have h := HS6.out; rw [List.length_append] at h; exact h)⟩
       case measure => simp [intOf]; omega
      ·have hkd : decide ((j : Int) < 16) = false := decide_eq_false (by omega)
       have HN3 := LH hN.base
       clear hN
       go_wp2
       go_roundw
       case rel => exact ⟨i + 1, by omega, by go_num, HN3.out⟩
       case measure => simp [intOf]; omega
    ·have HNI := LH hN
     clear hN
     go_wp2
     obtain ⟨wb, rfl⟩ : ∃ wb, wb = wr := ⟨_, rfl⟩
     go_loopw [139] (fun iv wx => ∃ q : Nat, q ≤ sk.length ∧ iv = .int .i64 (q : Int) ∧ N2 w18 w3.heap.size (.slice va17 sk.length vc17) sk C' i wx) (fun iv _ => sk.length - (intOf iv).toNat)
     case atStart => exact ⟨0, by omega, rfl, HNI.out⟩
     case round =>
      clear HNI
      obtain ⟨q, hq, rfl, hN⟩ := hrel
      by_cases hlt3 : q < sk.length
      ·have HNQ := LH hN
       obtain ⟨g, hge, z0, hg0⟩ := at_gk hN.outer hlt3
       subst hge
       have ht : sk[q]? = some sk[q] := List.getElem?_eq_getElem hlt3
       have hcl := HCL2.out q
       have hft := (hN.fit q _ ht).1
       have HT := LH ht
       clear hN ht
       generalize sk[q] = tt at *
       obtain ⟨ta, tn, tc⟩ := tt
       simp only [] at z0 hft
       have htl : tn ≤ 300000000000 := by omega
       clear hft
       go_wp2
       obtain ⟨wd, rfl⟩ : ∃ wd, wd = wr := ⟨_, rfl⟩
       go_loopw [146] (fun iv wx => ∃ j : Nat, j ≤ tn ∧ iv = .int .i64 (j : Int) ∧ N2 w18 w3.heap.size (.slice (some ⟨g, 0, none⟩) sk.length vc17) sk C' i wx) (fun iv _ => tn - (intOf iv).toNat)
       case atStart => exact ⟨0, by omega, rfl, HNQ.out⟩
       case round =>
        clear HNQ z0 hg0
        obtain ⟨j, hj, rfl, hN⟩ := hrel
        by_cases hjt : j < tn
        ·have HNQ := LH hN
         obtain ⟨b, rfl, hb0, z1⟩ := hN.num (fun i x hx => HC2.out q i x hx hlt3) HT.out hjt
         have hw1 : IntKind.i64.wrap (1000003 * (q : Int)) = 1000003 * (q : Int) := wrap15_i64 _ (by omega) (by omega)
         have hw2 : IntKind.i64.wrap (1000003 * (q : Int) + (j : Int)) = nkF q j := by unfold nkF; exact wrap15_i64 _ (by omega) (by omega)
         clear hN
         go_wp2
         go_roundw
         case rel => exact ⟨j + 1, by omega, by go_num, HNQ.out⟩
         case measure => simp [intOf]; omega
        ·have HNQ := LH hN
         clear hN
         go_wp2
         go_roundw
         case rel => exact ⟨q + 1, by omega, by go_num, HNQ.out⟩
         case measure => simp [intOf]; omega
      ·have HNQ := LH hN
       have HMK5 := LH HMK.out
       rw [HSKQ.out] at HNQ
       obtain ⟨t', hx', hb'⟩ := in_back HI3.out HSS.out HKS.out HMK5.out HGR.out HNQ.out HC1.out
       have HX' := LH hx'
       have HZ5 := LH (HZ_18.out.trans hN.bel)
       have HJ5 := LH (show Blk wr w4.heap.size 27 #[.int .i64 kdI, .string (str flI), .string (str txI), .int .i64 xnI, .bool laI, .bool lbI, .string (str lcI), .bool raI, .bool rbI, .string (str rcI), .slice oaI onI ocI, .slice kaI knI kcI] from (hN.kept _ HJ_18.out.lt HFJ.out).trans HJ_18.out)
       have HBW := LH (HBC.out.trans (HZ5.out.mono HBC.out.size))
       have HCALL := LH (oneAny15 t' wr ea _ _ HX'.out (by rw [hb']; exact HKB.out) (HEC.out.below HZ5.out))
       unfold NV.val at HCALL
       simp only [] at HCALL
       clear hx' hb' hN
       have nzz := HJ5.out
       obtain ⟨n0, n1, n2, n3, n4, n5, n6, n7, n8, n9, n10, n11, -, -, -, -, -, -, -, -, -, -, -, -, ln⟩ := blk12 nzz
       clear nzz
       go_wp2_with fail
       refine HCALL.out.mono ?_
       rintro e w19 ⟨rfl, hb⟩
       have HBF := LH (HBW.out.trans (hb.mono HBW.out.size))
       clear HCALL hb
       go_wp2
       go_ret
       exact ⟨rfl, HBF.out⟩
end Go.Proofs.YthcldpminmhgkaaDoor
end
