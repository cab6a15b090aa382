/- Merged for a claim by shake.py: Jbp Jbh Jbs -/
import Derived.Test.YthcldpminmhgkaaDoorKxA
import Derived.Carry
import Derived.Deep.AppendLies
import Derived.Deep.RegionLaw
import Derived.Laws.CopyOwn
import Derived.Laws.MakeOwn
import Derived.Laws.OwnMore
import Derived.Lib.AppendStr
import Derived.OpenShut
import Derived.ShutString
import Derived.Test.YthcldpminmhgkaaDoorKx1
import Derived.Test.YthcldpminmhgkaaDoorKx2
import Derived.Test.YthcldpminmhgkaaDoorKx21
import Derived.Test.YthcldpminmhgkaaDoorKx22
import Derived.Test.YthcldpminmhgkaaDoorKx23
import Derived.Test.YthcldpminmhgkaaDoorKx25
import Derived.Test.YthcldpminmhgkaaDoorKx3
import Derived.Test.YthcldpminmhgkaaDoorKx39
import Derived.Test.YthcldpminmhgkaaDoorKx40
import Derived.Test.YthcldpminmhgkaaDoorKx6
import Derived.Test.YthcldpminmhgkaaDoorKx7
import Derived.Test.YthcldpminmhgkaaDoorKx8
import Derived.Test.YthcldpminmhgkaaDoorRows
set_option maxRecDepth 100000
set_option maxHeartbeats 4000000
set_option linter.unusedSimpArgs false
set_option linter.unusedVariables false
section
namespace Go.Proofs.YthcldpminmhgkaaDoor
open Go.RowKit
theorem parse_q {q : ByteArray} {n : Nat} {t : Nd} (h : Der q.data.toList n t) (hn : n ≤ 64) (hs : q.size ≤ 900000000000) {w : World} {ea : List Addr} (hE : LawEnv w ea) :
  Calls Tryd.prog 26 #[.string q] w (TrE3 t (.int .i64 0) .nilIface w) := by
 refine (parse_der h hn w ea 15 hs hE.pr.cls hE.syn).mono fun e w' h2 => ?_
 obtain ⟨hb, ⟨kd, fl, tx, xn, ⟨la, lb, lc⟩, ⟨ra, rb, rc⟩, ⟨oa, on, oc⟩, ⟨ka, kn, kc⟩⟩, rfl, hx⟩ := h2
 exact ⟨hb, kd, xn, fl, tx, la, lb, lc, ra, rb, rc, oa, on, oc, ka, kn, kc, rfl, hx⟩
theorem parse_bad_q {q : ByteArray} {p : Nat} (hc : checkS q.data.toList = .inr p) (hs : q.size ≤ 900000000000) {w : World} {ea : List Addr} (hE : LawEnv w ea) :
  Calls Tryd.prog 26 #[.string q] w fun e w' => Below w.heap.size w w' ∧ e = .returned (.tuple #[.agg nvZero, .int .i64 (p : Int), errI ea 15]) := parse_bad hc w ea 15 hs hE.pr.cls hE.syn
theorem parse_deep_q {q : ByteArray} {n : Nat} (hc : checkS q.data.toList = .inl n) (hn : 64 < n) (hs : q.size ≤ 900000000000) {w : World} {ea : List Addr} (hE : LawEnv w ea) :
  Calls Tryd.prog 26 #[.string q] w fun e w' => Below w.heap.size w w' ∧ e = .returned (.tuple #[.agg nvZero, .int .i64 0, errI ea 16]) := parse_deep hc hn w ea 15 16 hs hE.pr.cls hE.syn hE.deep
theorem text_walk (q : ByteArray) (hq : q.size ≤ 1048576) (w0 : World) (ea : List Addr) (hE : LawEnv w0 ea) :
  Calls Tryd.prog 8 #[.string q] w0 fun e w' => e = .returned (.bool true) ∧ Below w0.heap.size w0 w' := by
 have HB_0 := LH (Below.refl w0.heap.size w0)
 have HE_0 := LH hE
 have HQ := LH (show q.size ≤ 900000000000 from Nat.le_trans hq (by decide))
 have HQL := LH (show q.data.toList.length ≤ 1048576 from by rw [← ba_size]; exact hq)
 clear hE hq
 go_enter Tryd.func8, Tryd.ntmps8
 go_wp2_with fail
 have HCALL := LH (fixed_any w0 ea HE_0.out)
 skip
 refine HCALL.out.mono ?_
 rintro e w1 ⟨rfl, hb⟩
 clear HCALL
 have HB_1 := LH (HB_0.out.trans (hb.mono HB_0.out.size))
 have HE_1 := LH (HE_0.out.below hb)
 clear HB_0 HE_0
 clear hb
 rcases hck : checkS q.data.toList with n | p
 case inr =>
  have HCALL := LH (parse_bad_q hck HQ.out HE_1.out)
  go_wp2_with fail
  refine HCALL.out.mono ?_
  rintro e w2 ⟨hb, rfl⟩
  clear HCALL
  have HB_2 := LH (HB_1.out.trans (hb.mono HB_1.out.size))
  have HE_2 := LH (HE_1.out.below hb)
  clear HB_1 HE_1
  clear hb
  have hba := (Below.refl w2.heap.size w2).alloc (Nat.le_refl _) (.cells nvZero 27)
  have HBXN := LH (Blk.new w2 27 nvZero)
  have HB_3 := LH (HB_2.out.trans (hba.mono HB_2.out.size))
  have HE_3 := LH (HE_2.out.below hba)
  clear hba HB_2 HE_2
  have HZ_3 := LH HBXN.out
  clear HBXN
  unfold errI errV
  go_wp2
  go_ret
  exact ⟨rfl, HB_3.out⟩
 by_cases hn : 64 < n
 case pos =>
  have HCALL := LH (parse_deep_q hck hn HQ.out HE_1.out)
  go_wp2_with fail
  refine HCALL.out.mono ?_
  rintro e w2 ⟨hb, rfl⟩
  clear HCALL
  have HB_2 := LH (HB_1.out.trans (hb.mono HB_1.out.size))
  have HE_2 := LH (HE_1.out.below hb)
  clear HB_1 HE_1
  clear hb
  have hba := (Below.refl w2.heap.size w2).alloc (Nat.le_refl _) (.cells nvZero 27)
  have HBXN := LH (Blk.new w2 27 nvZero)
  have HB_3 := LH (HB_2.out.trans (hba.mono HB_2.out.size))
  have HE_3 := LH (HE_2.out.below hba)
  clear hba HB_2 HE_2
  have HZ_3 := LH HBXN.out
  clear HBXN
  unfold errI errV
  go_wp2
  go_ret
  exact ⟨rfl, HB_3.out⟩
 obtain ⟨t, hD⟩ := der_of hck
 obtain ⟨hg, hcan, hnest⟩ := hD.good
 have HD := LH hD; have HG := LH hg; have HN64 := LH (show n ≤ 64 from by omega)
 have HBK := LH (der_bk hD HQL.out)
 have HFL := LH (der_form hD HQL.out hg)
 have HCN := LH hcan
 have HCC := LH (show canonN t = t from hcan)
 obtain ⟨fs, hfs⟩ : ∃ fs, str (formN t) = fs := ⟨_, rfl⟩
 obtain ⟨d, hnd⟩ : ∃ d, nestN t = d := ⟨_, rfl⟩
 have HFS := LH hfs; have HND := LH hnd
 have HD64 := LH (show nestN t ≤ 64 from by omega)
 have hdn : (d : Int) ≤ (n : Int) := by omega
 have hnb : (n : Int) ≤ 64 := by omega
 clear hfs hnd hD hg hcan hnest hck hn
 have HCALL := LH (parse_q HD.out HN64.out HQ.out HE_1.out)
 go_wp2_with fail
 refine HCALL.out.mono ?_
 rintro e w2 ⟨hb, kdT, xnT, flT, txT, laT, lbT, lcT, raT, rbT, rcT, oaT, onT, ocT, kaT, knT, kcT, rfl, hx⟩
 clear HCALL
 have HB_2 := LH (HB_1.out.trans (hb.mono HB_1.out.size))
 have HE_2 := LH (HE_1.out.below hb)
 clear HB_1 HE_1
 have HX_2 := LH hx
 clear hb hx
 have hba := (Below.refl w2.heap.size w2).alloc (Nat.le_refl _) (.cells #[.int .i64 kdT, .string (str flT), .string (str txT), .int .i64 xnT, .bool laT, .bool lbT, .string (str lcT), .bool raT, .bool rbT, .string (str rcT), .slice oaT onT ocT, .slice kaT knT kcT] 27)
 have HBXN := LH (Blk.new w2 27 #[.int .i64 kdT, .string (str flT), .string (str txT), .int .i64 xnT, .bool laT, .bool lbT, .string (str lcT), .bool raT, .bool rbT, .string (str rcT), .slice oaT onT ocT, .slice kaT knT kcT])
 have HB_3 := LH (HB_2.out.trans (hba.mono HB_2.out.size))
 have HE_3 := LH (HE_2.out.below hba)
 have HX_3 := LH (HX_2.out.belowW hba)
 clear hba HB_2 HE_2 HX_2
 have HT_3 := LH HBXN.out
 clear HBXN
 go_wp2_with fail
 generalize (w2.alloc (.cells #[.int .i64 kdT, .string (str flT), .string (str txT), .int .i64 xnT, .bool laT, .bool lbT, .string (str lcT), .bool raT, .bool rbT, .string (str rcT), .slice oaT onT ocT, .slice kaT knT kcT] 27)) = w3 at *
 have HCALL := LH (check_der HD.out w3 ea 15 HQ.out HE_3.out.pr.cls HE_3.out.syn)
 skip
 refine HCALL.out.mono ?_
 rintro e w4 ⟨hb, rfl⟩
 clear HCALL
 have HB_4 := LH (HB_3.out.trans (hb.mono HB_3.out.size))
 have HE_4 := LH (HE_3.out.below hb)
 have HX_4 := LH (HX_3.out.belowW hb)
 have HT_4 := LH (HT_3.out.belowW hb)
 clear HB_3 HE_3 HX_3 HT_3
 clear hb
 have nzz := HT_4.out
 obtain ⟨n0, n1, n2, n3, n4, n5, n6, n7, n8, n9, n10, n11, -, -, -, -, -, -, -, -, -, -, -, -, ln⟩ := blk12 nzz
 clear nzz
 have HCALL := LH (pcheck_yes HG.out HX_4.out (Nat.le_trans HBK.out (by decide)) HE_4.out)
 unfold NV.val at HCALL
 simp only [] at HCALL
 go_wp2_with fail
 refine HCALL.out.mono ?_
 rintro e w5 ⟨rfl, hb⟩
 clear HCALL
 clear n0 n1 n2 n3 n4 n5 n6 n7 n8 n9 n10 n11 ln
 have HB_5 := LH (HB_4.out.trans (hb.mono HB_4.out.size))
 have HE_5 := LH (HE_4.out.below hb)
 have HX_5 := LH (HX_4.out.belowW hb)
 have HT_5 := LH (HT_4.out.belowW hb)
 clear HB_4 HE_4 HX_4 HT_4
 clear hb
 have nzz := HT_5.out
 obtain ⟨n0, n1, n2, n3, n4, n5, n6, n7, n8, n9, n10, n11, -, -, -, -, -, -, -, -, -, -, -, -, ln⟩ := blk12 nzz
 clear nzz
 have HCALL := LH (pprint_as HG.out HCC.out HFS.out HX_5.out HBK.out HE_5.out)
 unfold NV.val at HCALL
 simp only [] at HCALL
 go_wp2_with fail
 refine HCALL.out.mono ?_
 rintro e w6 ⟨hb, rfl⟩
 clear HCALL
 clear n0 n1 n2 n3 n4 n5 n6 n7 n8 n9 n10 n11 ln
 have HB_6 := LH (HB_5.out.trans (hb.mono HB_5.out.size))
 have HE_6 := LH (HE_5.out.below hb)
 have HX_6 := LH (HX_5.out.belowW hb)
 have HT_6 := LH (HT_5.out.belowW hb)
 clear HB_5 HE_5 HX_5 HT_5
 clear hb
 have nzz := HT_6.out
 obtain ⟨n0, n1, n2, n3, n4, n5, n6, n7, n8, n9, n10, n11, -, -, -, -, -, -, -, -, -, -, -, -, ln⟩ := blk12 nzz
 clear nzz
 have HCALL := LH (pcanon_as HG.out HCC.out HX_6.out HBK.out HE_6.out)
 unfold NV.val at HCALL
 simp only [] at HCALL
 go_wp2_with fail
 refine HCALL.out.mono ?_
 rintro e w7 ⟨hb, kdC, xnC, flC, txC, laC, lbC, lcC, raC, rbC, rcC, oaC, onC, ocC, kaC, knC, kcC, rfl, hx⟩
 clear HCALL
 clear n0 n1 n2 n3 n4 n5 n6 n7 n8 n9 n10 n11 ln
 have HB_7 := LH (HB_6.out.trans (hb.mono HB_6.out.size))
 have HE_7 := LH (HE_6.out.below hb)
 have HX_7 := LH (HX_6.out.belowW hb)
 have HT_7 := LH (HT_6.out.belowW hb)
 clear HB_6 HE_6 HX_6 HT_6
 have HY_7 := LH hx
 clear hb hx
 have hba := (Below.refl w7.heap.size w7).alloc (Nat.le_refl _) (.cells #[.int .i64 kdC, .string (str flC), .string (str txC), .int .i64 xnC, .bool laC, .bool lbC, .string (str lcC), .bool raC, .bool rbC, .string (str rcC), .slice oaC onC ocC, .slice kaC knC kcC] 27)
 have HBXN := LH (Blk.new w7 27 #[.int .i64 kdC, .string (str flC), .string (str txC), .int .i64 xnC, .bool laC, .bool lbC, .string (str lcC), .bool raC, .bool rbC, .string (str rcC), .slice oaC onC ocC, .slice kaC knC kcC])
 have HB_8 := LH (HB_7.out.trans (hba.mono HB_7.out.size))
 have HE_8 := LH (HE_7.out.below hba)
 have HX_8 := LH (HX_7.out.belowW hba)
 have HT_8 := LH (HT_7.out.belowW hba)
 have HY_8 := LH (HY_7.out.belowW hba)
 clear hba HB_7 HE_7 HX_7 HT_7 HY_7
 have HC_8 := LH HBXN.out
 clear HBXN
 go_wp2_with fail
 generalize (w7.alloc (.cells #[.int .i64 kdC, .string (str flC), .string (str txC), .int .i64 xnC, .bool laC, .bool lbC, .string (str lcC), .bool raC, .bool rbC, .string (str rcC), .slice oaC onC ocC, .slice kaC knC kcC] 27)) = w8 at *
 have HCALL := LH (parse_as HG.out HCN.out HFS.out HD64.out HFL.out HE_8.out)
 refine HCALL.out.mono ?_
 rintro e w9 ⟨hb, kdP, xnP, flP, txP, laP, lbP, lcP, raP, rbP, rcP, oaP, onP, ocP, kaP, knP, kcP, rfl, hx⟩
 clear HCALL
 have HB_9 := LH (HB_8.out.trans (hb.mono HB_8.out.size))
 have HE_9 := LH (HE_8.out.below hb)
 have HX_9 := LH (HX_8.out.belowW hb)
 have HT_9 := LH (HT_8.out.belowW hb)
 have HY_9 := LH (HY_8.out.belowW hb)
 have HC_9 := LH (HC_8.out.belowW hb)
 clear HB_8 HE_8 HX_8 HT_8 HY_8 HC_8
 have HV_9 := LH hx
 clear hb hx
 have hba := (Below.refl w9.heap.size w9).alloc (Nat.le_refl _) (.cells #[.int .i64 kdP, .string (str flP), .string (str txP), .int .i64 xnP, .bool laP, .bool lbP, .string (str lcP), .bool raP, .bool rbP, .string (str rcP), .slice oaP onP ocP, .slice kaP knP kcP] 27)
 have HBXN := LH (Blk.new w9 27 #[.int .i64 kdP, .string (str flP), .string (str txP), .int .i64 xnP, .bool laP, .bool lbP, .string (str lcP), .bool raP, .bool rbP, .string (str rcP), .slice oaP onP ocP, .slice kaP knP kcP])
 have HB_10 := LH (HB_9.out.trans (hba.mono HB_9.out.size))
 have HE_10 := LH (HE_9.out.below hba)
 have HX_10 := LH (HX_9.out.belowW hba)
 have HT_10 := LH (HT_9.out.belowW hba)
 have HY_10 := LH (HY_9.out.belowW hba)
 have HC_10 := LH (HC_9.out.belowW hba)
 have HV_10 := LH (HV_9.out.belowW hba)
 clear hba HB_9 HE_9 HX_9 HT_9 HY_9 HC_9 HV_9
 have HP_10 := LH HBXN.out
 clear HBXN
 have nzz := HC_10.out
 obtain ⟨n0, n1, n2, n3, n4, n5, n6, n7, n8, n9, n10, n11, -, -, -, -, -, -, -, -, -, -, -, -, ln⟩ := blk12 nzz
 clear nzz
 have pzz := HP_10.out
 obtain ⟨p0, p1, p2, p3, p4, p5, p6, p7, p8, p9, p10, p11, -, -, -, -, -, -, -, -, -, -, -, -, lp⟩ := blk12 pzz
 clear pzz
 go_wp2_with fail
 generalize (w9.alloc (.cells #[.int .i64 kdP, .string (str flP), .string (str txP), .int .i64 xnP, .bool laP, .bool lbP, .string (str lcP), .bool raP, .bool rbP, .string (str rcP), .slice oaP onP ocP, .slice kaP knP kcP] 27)) = w10 at *
 have HCALL := LH (rsame_as (same_self t) HY_10.out HV_10.out)
 unfold NV.val at HCALL
 simp only [] at HCALL
 skip
 refine HCALL.out.mono ?_
 rintro e w11 ⟨rfl, hb⟩
 clear HCALL
 clear n0 n1 n2 n3 n4 n5 n6 n7 n8 n9 n10 n11 ln
 clear p0 p1 p2 p3 p4 p5 p6 p7 p8 p9 p10 p11 lp
 have HB_11 := LH (HB_10.out.trans (hb.mono HB_10.out.size))
 have HE_11 := LH (HE_10.out.below hb)
 have HX_11 := LH (HX_10.out.belowW hb)
 have HT_11 := LH (HT_10.out.belowW hb)
 have HY_11 := LH (HY_10.out.belowW hb)
 have HC_11 := LH (HC_10.out.belowW hb)
 have HV_11 := LH (HV_10.out.belowW hb)
 have HP_11 := LH (HP_10.out.belowW hb)
 clear HB_10 HE_10 HX_10 HT_10 HY_10 HC_10 HV_10 HP_10
 clear hb
 have nzz := HC_11.out
 obtain ⟨n0, n1, n2, n3, n4, n5, n6, n7, n8, n9, n10, n11, -, -, -, -, -, -, -, -, -, -, -, -, ln⟩ := blk12 nzz
 clear nzz
 have pzz := HT_11.out
 obtain ⟨p0, p1, p2, p3, p4, p5, p6, p7, p8, p9, p10, p11, -, -, -, -, -, -, -, -, -, -, -, -, lp⟩ := blk12 pzz
 clear pzz
 have HCALL := LH (rsame_as (same_self t) HY_11.out HX_11.out)
 unfold NV.val at HCALL
 simp only [] at HCALL
 go_wp2_with fail
 refine HCALL.out.mono ?_
 rintro e w12 ⟨rfl, hb⟩
 clear HCALL
 clear n0 n1 n2 n3 n4 n5 n6 n7 n8 n9 n10 n11 ln
 clear p0 p1 p2 p3 p4 p5 p6 p7 p8 p9 p10 p11 lp
 have HB_12 := LH (HB_11.out.trans (hb.mono HB_11.out.size))
 have HE_12 := LH (HE_11.out.below hb)
 have HX_12 := LH (HX_11.out.belowW hb)
 have HT_12 := LH (HT_11.out.belowW hb)
 have HY_12 := LH (HY_11.out.belowW hb)
 have HC_12 := LH (HC_11.out.belowW hb)
 have HV_12 := LH (HV_11.out.belowW hb)
 have HP_12 := LH (HP_11.out.belowW hb)
 clear HB_11 HE_11 HX_11 HT_11 HY_11 HC_11 HV_11 HP_11
 clear hb
 have nzz := HT_12.out
 obtain ⟨n0, n1, n2, n3, n4, n5, n6, n7, n8, n9, n10, n11, -, -, -, -, -, -, -, -, -, -, -, -, ln⟩ := blk12 nzz
 clear nzz
 have HCALL := LH (pnest_as HG.out HCC.out HND.out HX_12.out HBK.out HE_12.out)
 unfold NV.val at HCALL
 simp only [] at HCALL
 go_wp2_with fail
 refine HCALL.out.mono ?_
 rintro e w13 ⟨hb, rfl⟩
 clear HCALL
 clear n0 n1 n2 n3 n4 n5 n6 n7 n8 n9 n10 n11 ln
 have HB_13 := LH (HB_12.out.trans (hb.mono HB_12.out.size))
 have HE_13 := LH (HE_12.out.below hb)
 have HX_13 := LH (HX_12.out.belowW hb)
 have HT_13 := LH (HT_12.out.belowW hb)
 have HY_13 := LH (HY_12.out.belowW hb)
 have HC_13 := LH (HC_12.out.belowW hb)
 have HV_13 := LH (HV_12.out.belowW hb)
 have HP_13 := LH (HP_12.out.belowW hb)
 clear HB_12 HE_12 HX_12 HT_12 HY_12 HC_12 HV_12 HP_12
 clear hb
 have nzz := HP_13.out
 obtain ⟨n0, n1, n2, n3, n4, n5, n6, n7, n8, n9, n10, n11, -, -, -, -, -, -, -, -, -, -, -, -, ln⟩ := blk12 nzz
 clear nzz
 have HCALL := LH (pprint_as HG.out HCC.out HFS.out HV_13.out HBK.out HE_13.out)
 unfold NV.val at HCALL
 simp only [] at HCALL
 go_wp2_with fail
 refine HCALL.out.mono ?_
 rintro e w14 ⟨hb, rfl⟩
 clear HCALL
 clear n0 n1 n2 n3 n4 n5 n6 n7 n8 n9 n10 n11 ln
 have HB_14 := LH (HB_13.out.trans (hb.mono HB_13.out.size))
 have HE_14 := LH (HE_13.out.below hb)
 have HX_14 := LH (HX_13.out.belowW hb)
 have HT_14 := LH (HT_13.out.belowW hb)
 have HY_14 := LH (HY_13.out.belowW hb)
 have HC_14 := LH (HC_13.out.belowW hb)
 have HV_14 := LH (HV_13.out.belowW hb)
 have HP_14 := LH (HP_13.out.belowW hb)
 clear HB_13 HE_13 HX_13 HT_13 HY_13 HC_13 HV_13 HP_13
 clear hb
 go_wp2
 go_ret
 exact ⟨rfl, HB_14.out⟩
end Go.Proofs.YthcldpminmhgkaaDoor
end
section
namespace Go.Proofs.YthcldpminmhgkaaDoor
open Go.RowKit Go.ChangeShapes Go.WideShapes Go.Deep
theorem gTab15 : Tryd.prog.globalNamed "concord/lexer.classes" = some 25 := by kernel_rfl
theorem gTabType15 : (Tryd.prog.globals[25]?).map (·.type) = some 110 := by kernel_rfl
theorem cls15_of_head {W : World} {rest : List (String × DataW Unit)} (h : laidMet Tryd.prog (("concord/lexer.classes", Rows.laid_concord_lexer_classes) :: rest) W) : ClsEnv W := by
 have ht : Lib.TabIs Tryd.prog W "concord/lexer.classes" .u8 clsTab := Lib.tabIs_of_head (rest := rest) gTab15 gTabType15 Tryd.underlying110 Tryd.underlying5 (by kernel_rfl) (by kernel_rfl) h
 have hl : clsTab.length = 128 := by decide
 have hc : ∀ j, j < 128 → W.cell? ⟨25, j, none⟩ = some (.int .u8 (clsTab.getD j 0)) := fun j hj => ht.cell gTab15 j (by rw [hl]; exact hj)
 exact ⟨hc, World.block_lt_of_cell? W ⟨25, 0, none⟩ (hc 0 (by decide))⟩
theorem lawEnv_of {W : World} (h : laidMet Tryd.prog Rows.printerBackUptoRow.laid W) : ∃ ea, LawEnv W ea := by
 obtain ⟨ea, h1⟩ := errEnv_of h (by rfl)
 have h2 := cls15_of_head (rest := []) (h.filter (fun x => x.1 == "concord/lexer.classes"))
 have h3 := p10_of_head (rest := []) (h.filter (fun x => x.1 == "internal/strconv.uint64pow10"))
 have h4 := ask_of_head (rest := []) (h.filter (fun x => x.1 == "concord/printer.asks"))
 exact ⟨ea, ⟨⟨h4, h2, h3, h4.2, h2.2, h3.lt⟩, h1⟩⟩
end Go.Proofs.YthcldpminmhgkaaDoor
end
section
namespace Go.Proofs.YthcldpminmhgkaaDoor
open Go.RowKit
theorem printerText_env {W : World} (h : laidMetH Tryd.prog Rows.printerTextUptoRow.laid W) : ∃ ea, LawEnv W ea := lawEnv_of h
theorem printerText_walk (q : ByteArray) (hq : q.size ≤ 1048576) (w : World) (hE : ∃ ea, LawEnv w ea) :
  Calls Tryd.prog 8 #[.string q] w fun e w' => e = .returned (.bool true) ∧ Below w.heap.size w w' := by
 obtain ⟨ea, hE⟩ := hE
 exact text_walk q hq w ea hE
end Go.Proofs.YthcldpminmhgkaaDoor
end
