/- Merged for a claim by shake.py: Jbf Jbh Jbi -/
import Derived.Test.YthcldpminmhgkaaDoorKbA
import Derived.Test.YthcldpminmhgkaaDoorKb44
import Derived.Test.YthcldpminmhgkaaDoorRows
set_option maxRecDepth 100000
set_option maxHeartbeats 4000000
set_option linter.unusedSimpArgs false
set_option linter.unusedVariables false
section
namespace Go.Proofs.YthcldpminmhgkaaDoor
open Go.RowKit
theorem back_walk (t : Nd) (w : World) (ea : List Addr) (x : NV) (hx : NdR w (fun b => b < w.heap.size) x t) (hbk : bkN t ≤ 1048576) (hE : LawEnv w ea) :
  Calls Tryd.prog 7 #[x.val] w fun e w' => e = .returned (.bool true) ∧ Below w.heap.size w w' := by
 obtain ⟨kdN, flN, txN, xnN, ⟨laN, lbN, lcN⟩, ⟨raN, rbN, rcN⟩, ⟨oaN, onN, ocN⟩, ⟨kaN, knN, kcN⟩⟩ := x
 have HB_0 := LH ((Below.refl w.heap.size w).alloc (Nat.le_refl _) (.cells #[.int .i64 kdN, .string (str flN), .string (str txN), .int .i64 xnN, .bool laN, .bool lbN, .string (str lcN), .bool raN, .bool rbN, .string (str rcN), .slice oaN onN ocN, .slice kaN knN kcN] 27))
 have HE_0 := LH (hE.below HB_0.out)
 have HN_0 := LH (Blk.new w 27 #[.int .i64 kdN, .string (str flN), .string (str txN), .int .i64 xnN, .bool laN, .bool lbN, .string (str lcN), .bool raN, .bool rbN, .string (str rcN), .slice oaN onN ocN, .slice kaN knN kcN])
 have HX_0 := LH (hx.belowW HB_0.out)
 have HBK := LH hbk
 clear hx hE hbk
 unfold NV.val
 simp only []
 go_enter Tryd.func7, Tryd.ntmps7
 go_wp2_with fail
 generalize w.alloc (.cells #[.int .i64 kdN, .string (str flN), .string (str txN), .int .i64 xnN, .bool laN, .bool lbN, .string (str lcN), .bool raN, .bool rbN, .string (str rcN), .slice oaN onN ocN, .slice kaN knN kcN] 27) = w0 at *
 have HCALL := LH (fixed_any w0 ea HE_0.out)
 skip
 refine HCALL.out.mono ?_
 rintro e w1 ⟨rfl, hb⟩
 clear HCALL
 have HB_1 := LH (HB_0.out.trans (hb.mono HB_0.out.size))
 have HE_1 := LH (HE_0.out.below hb)
 have HN_1 := LH (HN_0.out.belowW hb)
 have HX_1 := LH (HX_0.out.belowW hb)
 clear HB_0 HE_0 HN_0 HX_0
 clear hb
 have nzz := HN_1.out
 obtain ⟨n0, n1, n2, n3, n4, n5, n6, n7, n8, n9, n10, n11, -, -, -, -, -, -, -, -, -, -, -, -, ln⟩ := blk12 nzz
 clear nzz
 have HCALL := LH (few_any t w1 _ _ 4000 HX_1.out (Nat.le_trans HBK.out (by decide)) (by decide))
 unfold NV.val at HCALL
 simp only [] at HCALL
 go_wp2_with fail
 refine HCALL.out.mono ?_
 rintro e w2 ⟨rfl, hb⟩
 clear HCALL
 clear n0 n1 n2 n3 n4 n5 n6 n7 n8 n9 n10 n11 ln
 have HB_2 := LH (HB_1.out.trans (hb.mono HB_1.out.size))
 have HE_2 := LH (HE_1.out.below hb)
 have HN_2 := LH (HN_1.out.belowW hb)
 have HX_2 := LH (HX_1.out.belowW hb)
 clear HB_1 HE_1 HN_1 HX_1
 clear hb
 by_cases hfew : wtN t ≤ 4000
 case neg =>
  have hd : decide (wtN t ≤ 4000) = false := decide_eq_false hfew
  go_wp2
  go_ret
  exact ⟨rfl, HB_2.out⟩
 have hd : decide (wtN t ≤ 4000) = true := decide_eq_true hfew
 have HW := LH hfew
 clear hfew
 have nzz := HN_2.out
 obtain ⟨n0, n1, n2, n3, n4, n5, n6, n7, n8, n9, n10, n11, -, -, -, -, -, -, -, -, -, -, -, -, ln⟩ := blk12 nzz
 clear nzz
 have HCALL := LH (rcheck15_any t w2 _ _ HX_2.out (Nat.le_trans HBK.out (by decide)))
 unfold NV.val at HCALL
 simp only [] at HCALL
 go_wp2_with fail
 refine HCALL.out.mono ?_
 rintro e w3 ⟨rfl, hb⟩
 clear HCALL
 clear n0 n1 n2 n3 n4 n5 n6 n7 n8 n9 n10 n11 ln
 have HB_3 := LH (HB_2.out.trans (hb.mono HB_2.out.size))
 have HE_3 := LH (HE_2.out.below hb)
 have HN_3 := LH (HN_2.out.belowW hb)
 have HX_3 := LH (HX_2.out.belowW hb)
 clear HB_2 HE_2 HN_2 HX_2
 clear hb
 clear hd
 by_cases hg : goodN t = true
 case neg =>
  rw [chkN_no (by simpa using hg)]
  go_wp2
  go_ret
  exact ⟨rfl, HB_3.out⟩
 rw [chkN_yes hg]
 have HG := LH hg
 have HKB := LH (show bkN t ≤ 2000000 from Nat.le_trans HBK.out (by decide))
 have HGC := LH (canon_good t hg)
 have HKC := LH (show bkN (canonN t) ≤ 2000000 from Nat.le_trans (canon_bk t) HKB.out)
 have HSH := LH (form_short hg HBK.out HW.out)
 clear hg
 obtain ⟨fs, hfs⟩ : ∃ fs, str (formN (canonN t)) = fs := ⟨_, rfl⟩
 obtain ⟨d, hnd⟩ : ∃ d, nestN (canonN t) = d := ⟨_, rfl⟩
 obtain ⟨c, hcc⟩ : ∃ c, canonN t = c := ⟨_, rfl⟩
 have HDB := LH (show d ≤ 4000000 from by have h1 := nest_bk (canonN t); have h2 := HKC.out; omega)
 have HCN := LH (canon_can t)
 rw [hcc] at hfs hnd HGC HKC HSH HCN
 have HFS := LH hfs; have HND := LH hnd; have HCC := LH hcc
 clear hfs hnd hcc
 have nzz := HN_3.out
 obtain ⟨n0, n1, n2, n3, n4, n5, n6, n7, n8, n9, n10, n11, -, -, -, -, -, -, -, -, -, -, -, -, ln⟩ := blk12 nzz
 clear nzz
 have HCALL := LH (pprint_as HG.out HCC.out HFS.out HX_3.out HKB.out HE_3.out)
 unfold NV.val at HCALL
 simp only [] at HCALL
 go_wp2_with fail
 refine HCALL.out.mono ?_
 rintro e w4 ⟨hb, rfl⟩
 clear HCALL
 clear n0 n1 n2 n3 n4 n5 n6 n7 n8 n9 n10 n11 ln
 have HB_4 := LH (HB_3.out.trans (hb.mono HB_3.out.size))
 have HE_4 := LH (HE_3.out.below hb)
 have HN_4 := LH (HN_3.out.belowW hb)
 have HX_4 := LH (HX_3.out.belowW hb)
 clear HB_3 HE_3 HN_3 HX_3
 clear hb
 have nzz := HN_4.out
 obtain ⟨n0, n1, n2, n3, n4, n5, n6, n7, n8, n9, n10, n11, -, -, -, -, -, -, -, -, -, -, -, -, ln⟩ := blk12 nzz
 clear nzz
 have HCALL := LH (pcanon_as HG.out HCC.out HX_4.out HKB.out HE_4.out)
 unfold NV.val at HCALL
 simp only [] at HCALL
 go_wp2_with fail
 refine HCALL.out.mono ?_
 rintro e w5 ⟨hb, kdC, xnC, flC, txC, laC, lbC, lcC, raC, rbC, rcC, oaC, onC, ocC, kaC, knC, kcC, rfl, hx⟩
 clear HCALL
 clear n0 n1 n2 n3 n4 n5 n6 n7 n8 n9 n10 n11 ln
 have HB_5 := LH (HB_4.out.trans (hb.mono HB_4.out.size))
 have HE_5 := LH (HE_4.out.below hb)
 have HN_5 := LH (HN_4.out.belowW hb)
 have HX_5 := LH (HX_4.out.belowW hb)
 clear HB_4 HE_4 HN_4 HX_4
 have HY_5 := LH hx
 clear hb hx
 have hba := (Below.refl w5.heap.size w5).alloc (Nat.le_refl _) (.cells #[.int .i64 kdC, .string (str flC), .string (str txC), .int .i64 xnC, .bool laC, .bool lbC, .string (str lcC), .bool raC, .bool rbC, .string (str rcC), .slice oaC onC ocC, .slice kaC knC kcC] 27)
 have HBXN := LH (Blk.new w5 27 #[.int .i64 kdC, .string (str flC), .string (str txC), .int .i64 xnC, .bool laC, .bool lbC, .string (str lcC), .bool raC, .bool rbC, .string (str rcC), .slice oaC onC ocC, .slice kaC knC kcC])
 have HB_6 := LH (HB_5.out.trans (hba.mono HB_5.out.size))
 have HE_6 := LH (HE_5.out.below hba)
 have HN_6 := LH (HN_5.out.belowW hba)
 have HX_6 := LH (HX_5.out.belowW hba)
 have HY_6 := LH (HY_5.out.belowW hba)
 clear hba HB_5 HE_5 HN_5 HX_5 HY_5
 have HC_6 := LH HBXN.out
 clear HBXN
 have nzz := HN_6.out
 obtain ⟨n0, n1, n2, n3, n4, n5, n6, n7, n8, n9, n10, n11, -, -, -, -, -, -, -, -, -, -, -, -, ln⟩ := blk12 nzz
 clear nzz
 go_wp2_with fail
 generalize (w5.alloc (.cells #[.int .i64 kdC, .string (str flC), .string (str txC), .int .i64 xnC, .bool laC, .bool lbC, .string (str lcC), .bool raC, .bool rbC, .string (str rcC), .slice oaC onC ocC, .slice kaC knC kcC] 27)) = w6 at *
 have HCALL := LH (pnest_as HG.out HCC.out HND.out HX_6.out HKB.out HE_6.out)
 unfold NV.val at HCALL
 simp only [] at HCALL
 skip
 refine HCALL.out.mono ?_
 rintro e w7 ⟨hb, rfl⟩
 clear HCALL
 clear n0 n1 n2 n3 n4 n5 n6 n7 n8 n9 n10 n11 ln
 have HB_7 := LH (HB_6.out.trans (hb.mono HB_6.out.size))
 have HE_7 := LH (HE_6.out.below hb)
 have HN_7 := LH (HN_6.out.belowW hb)
 have HX_7 := LH (HX_6.out.belowW hb)
 have HY_7 := LH (HY_6.out.belowW hb)
 have HC_7 := LH (HC_6.out.belowW hb)
 clear HB_6 HE_6 HN_6 HX_6 HY_6 HC_6
 clear hb
 have hdb := HDB.out
 have HCALL := LH (check_as HGC.out HCN.out HFS.out HND.out HSH.out HE_7.out)
 go_wp2_with fail
 refine HCALL.out.mono ?_
 rintro e w8 ⟨hb, rfl⟩
 clear HCALL
 have HB_8 := LH (HB_7.out.trans (hb.mono HB_7.out.size))
 have HE_8 := LH (HE_7.out.below hb)
 have HN_8 := LH (HN_7.out.belowW hb)
 have HX_8 := LH (HX_7.out.belowW hb)
 have HY_8 := LH (HY_7.out.belowW hb)
 have HC_8 := LH (HC_7.out.belowW hb)
 clear HB_7 HE_7 HN_7 HX_7 HY_7 HC_7
 clear hb
 by_cases hd : 64 < d
 case pos =>
  have hd1 : decide (64 < d) = true := decide_eq_true hd
  have hd2 : (64 : Int) < (d : Int) := by omega
  have HCALL := LH (parse_deep_as HGC.out HCN.out HFS.out (by rw [HND.out]; exact hd) HSH.out HE_8.out)
  go_wp2_with fail
  refine HCALL.out.mono ?_
  rintro e w9 ⟨hb, rfl⟩
  clear HCALL
  have HB_9 := LH (HB_8.out.trans (hb.mono HB_8.out.size))
  have HE_9 := LH (HE_8.out.below hb)
  have HN_9 := LH (HN_8.out.belowW hb)
  have HX_9 := LH (HX_8.out.belowW hb)
  have HY_9 := LH (HY_8.out.belowW hb)
  have HC_9 := LH (HC_8.out.belowW hb)
  clear HB_8 HE_8 HN_8 HX_8 HY_8 HC_8
  clear hb
  clear hd
  have HNM := LH (Num_16 ea)
  have hba := (Below.refl w9.heap.size w9).alloc (Nat.le_refl _) (.cells nvZero 27)
  have HBXN := LH (Blk.new w9 27 nvZero)
  have HB_10 := LH (HB_9.out.trans (hba.mono HB_9.out.size))
  have HE_10 := LH (HE_9.out.below hba)
  have HN_10 := LH (HN_9.out.belowW hba)
  have HX_10 := LH (HX_9.out.belowW hba)
  have HY_10 := LH (HY_9.out.belowW hba)
  have HC_10 := LH (HC_9.out.belowW hba)
  clear hba HB_9 HE_9 HN_9 HX_9 HY_9 HC_9
  have HZ_10 := LH HBXN.out
  clear HBXN
  go_wp2_with fail
  refine (HNM.out _ HE_10.out.er).mono ?_
  rintro e w8 ⟨rfl, rfl⟩
  go_wp2
  go_ret
  exact ⟨rfl, HB_10.out⟩
 have hd1 : decide (64 < d) = false := decide_eq_false hd
 have hd2 : ¬ (64 : Int) < (d : Int) := by omega
 have HCALL := LH (parse_as HGC.out HCN.out HFS.out (by rw [HND.out]; omega) HSH.out HE_8.out)
 go_wp2_with fail
 refine HCALL.out.mono ?_
 rintro e w9 ⟨hb, kdP, xnP, flP, txP, laP, lbP, lcP, raP, rbP, rcP, oaP, onP, ocP, kaP, knP, kcP, rfl, hx⟩
 clear HCALL
 have HB_9 := LH (HB_8.out.trans (hb.mono HB_8.out.size))
 have HE_9 := LH (HE_8.out.below hb)
 have HN_9 := LH (HN_8.out.belowW hb)
 have HX_9 := LH (HX_8.out.belowW hb)
 have HY_9 := LH (HY_8.out.belowW hb)
 have HC_9 := LH (HC_8.out.belowW hb)
 clear HB_8 HE_8 HN_8 HX_8 HY_8 HC_8
 have HV_9 := LH hx
 clear hb hx
 clear hd
 have hba := (Below.refl w9.heap.size w9).alloc (Nat.le_refl _) (.cells #[.int .i64 kdP, .string (str flP), .string (str txP), .int .i64 xnP, .bool laP, .bool lbP, .string (str lcP), .bool raP, .bool rbP, .string (str rcP), .slice oaP onP ocP, .slice kaP knP kcP] 27)
 have HBXN := LH (Blk.new w9 27 #[.int .i64 kdP, .string (str flP), .string (str txP), .int .i64 xnP, .bool laP, .bool lbP, .string (str lcP), .bool raP, .bool rbP, .string (str rcP), .slice oaP onP ocP, .slice kaP knP kcP])
 have HB_10 := LH (HB_9.out.trans (hba.mono HB_9.out.size))
 have HE_10 := LH (HE_9.out.below hba)
 have HN_10 := LH (HN_9.out.belowW hba)
 have HX_10 := LH (HX_9.out.belowW hba)
 have HY_10 := LH (HY_9.out.belowW hba)
 have HC_10 := LH (HC_9.out.belowW hba)
 have HV_10 := LH (HV_9.out.belowW hba)
 clear hba HB_9 HE_9 HN_9 HX_9 HY_9 HC_9 HV_9
 have HP_10 := LH HBXN.out
 clear HBXN
 have nzz := HC_10.out
 obtain ⟨n0, n1, n2, n3, n4, n5, n6, n7, n8, n9, n10, n11, -, -, -, -, -, -, -, -, -, -, -, -, ln⟩ := blk12 nzz
 clear nzz
 have pzz := HP_10.out
 obtain ⟨p0, p1, p2, p3, p4, p5, p6, p7, p8, p9, p10, p11, -, -, -, -, -, -, -, -, -, -, -, -, lp⟩ := blk12 pzz
 clear pzz
 go_wp2_with fail
 generalize (w9.alloc (.cells #[.int .i64 kdP, .string (str flP), .string (str txP), .int .i64 xnP, .bool laP, .bool lbP, .string (str lcP), .bool raP, .bool rbP, .string (str rcP), .slice oaP onP ocP, .slice kaP knP kcP] 27)) = w10 at *
 have HCALL := LH (rsame_as (same_self c) HV_10.out HY_10.out)
 unfold NV.val at HCALL
 simp only [] at HCALL
 skip
 refine HCALL.out.mono ?_
 rintro e w11 ⟨rfl, hb⟩
 clear HCALL
 clear n0 n1 n2 n3 n4 n5 n6 n7 n8 n9 n10 n11 ln
 clear p0 p1 p2 p3 p4 p5 p6 p7 p8 p9 p10 p11 lp
 have HB_11 := LH (HB_10.out.trans (hb.mono HB_10.out.size))
 have HE_11 := LH (HE_10.out.below hb)
 have HN_11 := LH (HN_10.out.belowW hb)
 have HX_11 := LH (HX_10.out.belowW hb)
 have HY_11 := LH (HY_10.out.belowW hb)
 have HC_11 := LH (HC_10.out.belowW hb)
 have HV_11 := LH (HV_10.out.belowW hb)
 have HP_11 := LH (HP_10.out.belowW hb)
 clear HB_10 HE_10 HN_10 HX_10 HY_10 HC_10 HV_10 HP_10
 clear hb
 go_wp2
 go_ret
 exact ⟨rfl, HB_11.out⟩
end Go.Proofs.YthcldpminmhgkaaDoor
end
section
namespace Go.Proofs.YthcldpminmhgkaaDoor
open Go.RowKit Go.ChangeShapes Go.WideShapes Go.Deep
theorem gTab15 : Tryd.prog.globalNamed "concord/lexer.classes" = some 25 := by kernel_rfl
theorem gTabType15 : (Tryd.prog.globals[25]?).map (·.type) = some 110 := by kernel_rfl
theorem cls15_of_head {W : World} {rest : List (String × DataW Unit)} (h : laidMet Tryd.prog (("concord/lexer.classes", Rows.laid_concord_lexer_classes) :: rest) W) : ClsEnv W := by
 have ht : Lib.TabIs Tryd.prog W "concord/lexer.classes" .u8 clsTab := Lib.tabIs_of_head (rest := rest) gTab15 gTabType15 Tryd.underlying110 Tryd.underlying5 (by kernel_rfl) (by kernel_rfl) h
 have hl : clsTab.length = 128 := by decide
 have hc : ∀ j, j < 128 → W.cell? ⟨25, j, none⟩ = some (.int .u8 (clsTab.getD j 0)) := fun j hj => ht.cell gTab15 j (by rw [hl]; exact hj)
 exact ⟨hc, World.block_lt_of_cell? W ⟨25, 0, none⟩ (hc 0 (by decide))⟩
theorem lawEnv_of {W : World} (h : laidMet Tryd.prog Rows.printerBackUptoRow.laid W) : ∃ ea, LawEnv W ea := by
 obtain ⟨ea, h1⟩ := errEnv_of h (by rfl)
 have h2 := cls15_of_head (rest := []) (h.filter (fun x => x.1 == "concord/lexer.classes"))
 have h3 := p10_of_head (rest := []) (h.filter (fun x => x.1 == "internal/strconv.uint64pow10"))
 have h4 := ask_of_head (rest := []) (h.filter (fun x => x.1 == "concord/printer.asks"))
 exact ⟨ea, ⟨⟨h4, h2, h3, h4.2, h2.2, h3.lt⟩, h1⟩⟩
theorem open_node_arg {H : Type} {enc : TypeId × Value → H} {W : World} {v : Value} {d : DataW H} {p : List MemPlace} (hv : Value.okWide Tryd.prog W .any 0 27 v) (h : DataW.Trod enc Tryd.prog W 0 (fun _ => true) true 27 v d p) :
  ∃ (y : NV) (t : Nd), v = y.val ∧ NdR W (fun b => b < W.heap.size) y t ∧ bkN t ≤ Rows.uptoBulk d := by
 obtain ⟨cs, rfl, hsz⟩ := okWide_struct Tryd.underlying27 hv
 obtain ⟨fuel, hf⟩ := h
 have e : (Value.agg cs).cells.toList = cs.toList := rfl
 obtain ⟨y, t, h1, h2, h3⟩ := open_node fuel _ _ hf
 refine ⟨y, t, ?_, h2, h3⟩
 have h4 : cs.toList = y.cells := by rw [← e]; exact h1
 rw [show cs = y.cells.toArray from by rw [← h4]]
 rfl
end Go.Proofs.YthcldpminmhgkaaDoor
end
section
namespace Go.Proofs.YthcldpminmhgkaaDoor
open Go.RowKit
theorem printerBack_env {W : World} (h : laidMetH Tryd.prog Rows.printerBackUptoRow.laid W) : ∃ ea, LawEnv W ea := lawEnv_of h
theorem printerBack_walk (w : World) (x : NV) (t : Nd) (hx : NdR w (fun b => b < w.heap.size) x t) (hb : bkN t ≤ 1048576) (hE : ∃ ea, LawEnv w ea) :
  Calls Tryd.prog 7 #[x.val] w fun e w' => e = .returned (.bool true) ∧ Below w.heap.size w w' := by
 obtain ⟨ea, hE⟩ := hE
 exact back_walk t w ea x hx hb hE
end Go.Proofs.YthcldpminmhgkaaDoor
end
