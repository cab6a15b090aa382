/- Merged for a claim by shake.py: Jbk -/
import Derived.Test.YthcldpminmhgkaaDoorKn28
section
namespace Go.Proofs.YthcldpminmhgkaaDoor
open Go.RowKit
set_option maxRecDepth 100000
set_option maxHeartbeats 4000000
set_option linter.unusedSimpArgs false
set_option linter.unusedVariables false
def wrapT (K N : Int) (t : Nd) : Nd := .mk K [] [] N bd0 bd0 [] [t]
theorem wrapT_good {K N : Int} {t : Nd} (hk : (K = 13 ∧ N = 0) ∨ ((K = 14 ∨ K = 15) ∧ 0 ≤ N ∧ N ≤ 999999999)) (hg : goodN t = true) : goodN (wrapT K N t) = true := by
  unfold wrapT
  rw [goodN, goodNs, goodNs, hg]
  rcases hk with ⟨rfl, rfl⟩ | ⟨rfl | rfl, h1, h2⟩ <;> simp [ownN, bd0, Bd.nil, numB, maxNum, *]
theorem wrapT_canon {K N : Int} {t c : Nd} (hk : K = 13 ∨ K = 14 ∨ K = 15) (hc : canonN t = c) : canonN (wrapT K N t) = wrapT K N c := by
  unfold wrapT
  rw [canonN, canonNs, canonNs, canTop, if_neg (by omega), hc]
theorem wrapT_bk {K N : Int} {t : Nd} : bkN (wrapT K N t) = bkN t + 1 := by
  unfold wrapT
  rw [bkN, bkNs, bkNs]; simp [bd0]; omega
theorem wrapT_form {K N : Int} {c : Nd} (hk : K = 13 ∨ K = 14 ∨ K = 15) : formN (wrapT K N c) = aroundF K N (brF (decide (levN c < barK K 0)) (formN c)) := by
  unfold wrapT
  rw [formN, if_neg (by omega), formNs_one, if_neg (by omega)]
  rfl
theorem wrapT_nest {K N : Int} {c : Nd} (hk : K = 13 ∨ K = 14 ∨ K = 15) : nestN (wrapT K N c) = nestN c + (if levN c < barK K 0 then 1 else 0) + 1 := by
  unfold wrapT
  rw [nestN, nestNs, nestNs, Nat.max_zero]
  have h : deepK K N = 1 := by unfold deepK; rw [if_pos (by omega)]
  rw [h]; rfl
theorem nestlaw_walk (t : Nd) (wth : Int) (w : World) (ea : List Addr) (x : NV) (hx : NdR w (fun b => b < w.heap.size) x t) (hbk : bkN t ≤ 1048576) (hwt : -9223372036854775808 ≤ wth ∧ wth ≤ 9223372036854775807) (hE : LawEnv w ea) :
    Calls Tryd.prog 5 #[x.val, .int .i64 wth] w fun e w' => e = .returned (.bool true) ∧ Below w.heap.size w w' := by
  obtain ⟨kdN, flN, txN, xnN, ⟨laN, lbN, lcN⟩, ⟨raN, rbN, rcN⟩, ⟨oaN, onN, ocN⟩, ⟨kaN, knN, kcN⟩⟩ := x
  have HB_0 := Lib.hid ((Below.refl w.heap.size w).alloc (Nat.le_refl _) (.cells #[.int .i64 kdN, .string (str flN), .string (str txN), .int .i64 xnN, .bool laN, .bool lbN, .string (str lcN), .bool raN, .bool rbN, .string (str rcN), .slice oaN onN ocN, .slice kaN knN kcN] 27))
  have HE_0 := Lib.hid (hE.below HB_0.out)
  have HN_0 := Lib.hid (Blk.new w 27 #[.int .i64 kdN, .string (str flN), .string (str txN), .int .i64 xnN, .bool laN, .bool lbN, .string (str lcN), .bool raN, .bool rbN, .string (str rcN), .slice oaN onN ocN, .slice kaN knN kcN])
  have HX_0 := Lib.hid (hx.belowW HB_0.out)
  have HBK := Lib.hid hbk
  clear hx hE hbk
  unfold NV.val
  simp only []
  go_enter Tryd.func5, Tryd.ntmps5
  go_wp2_with fail
  generalize w.alloc (.cells #[.int .i64 kdN, .string (str flN), .string (str txN), .int .i64 xnN, .bool laN, .bool lbN, .string (str lcN), .bool raN, .bool rbN, .string (str rcN), .slice oaN onN ocN, .slice kaN knN kcN] 27) = w0 at *
  have HCALL := Lib.hid (fixed_any w0 ea HE_0.out)
  skip
  refine HCALL.out.mono ?_
  rintro e w1 ⟨rfl, hb⟩
  clear HCALL
  have HB_1 := Lib.hid (HB_0.out.trans (hb.mono HB_0.out.size))
  have HE_1 := Lib.hid (HE_0.out.below hb)
  have HN_1 := Lib.hid (HN_0.out.belowW hb)
  have HX_1 := Lib.hid (HX_0.out.belowW hb)
  clear HB_0 HE_0 HN_0 HX_0
  clear hb
  have nzz := HN_1.out
  have n0 := nzz.cell 0
  have n1 := nzz.cell 1
  have n2 := nzz.cell 2
  have n3 := nzz.cell 3
  have n4 := nzz.cell 4
  have n5 := nzz.cell 5
  have n6 := nzz.cell 6
  have n7 := nzz.cell 7
  have n8 := nzz.cell 8
  have n9 := nzz.cell 9
  have n10 := nzz.cell 10
  have n11 := nzz.cell 11
  have ln := nzz.lt
  simp only [List.getElem?_toArray, List.getElem?_cons_zero, List.getElem?_cons_succ] at n0 n1 n2 n3 n4 n5 n6 n7 n8 n9 n10 n11
  clear nzz
  have HCALL := Lib.hid (few_any t w1 _ _ 4000 HX_1.out (Nat.le_trans HBK.out (by decide)) (by decide))
  unfold NV.val at HCALL
  simp only [] at HCALL
  go_wp2_with fail
  refine HCALL.out.mono ?_
  rintro e w2 ⟨rfl, hb⟩
  clear HCALL
  clear n0 n1 n2 n3 n4 n5 n6 n7 n8 n9 n10 n11 ln
  have HB_2 := Lib.hid (HB_1.out.trans (hb.mono HB_1.out.size))
  have HE_2 := Lib.hid (HE_1.out.below hb)
  have HN_2 := Lib.hid (HN_1.out.belowW hb)
  have HX_2 := Lib.hid (HX_1.out.belowW hb)
  clear HB_1 HE_1 HN_1 HX_1
  clear hb
  by_cases hfew : wtN t ≤ 4000
  case neg =>
    have hd : decide (wtN t ≤ 4000) = false := decide_eq_false hfew
    go_wp2
    go_ret
    exact ⟨rfl, HB_2.out⟩
  have hd : decide (wtN t ≤ 4000) = true := decide_eq_true hfew
  have HW := Lib.hid hfew
  clear hfew
  have nzz := HN_2.out
  have n0 := nzz.cell 0
  have n1 := nzz.cell 1
  have n2 := nzz.cell 2
  have n3 := nzz.cell 3
  have n4 := nzz.cell 4
  have n5 := nzz.cell 5
  have n6 := nzz.cell 6
  have n7 := nzz.cell 7
  have n8 := nzz.cell 8
  have n9 := nzz.cell 9
  have n10 := nzz.cell 10
  have n11 := nzz.cell 11
  have ln := nzz.lt
  simp only [List.getElem?_toArray, List.getElem?_cons_zero, List.getElem?_cons_succ] at n0 n1 n2 n3 n4 n5 n6 n7 n8 n9 n10 n11
  clear nzz
  have HCALL := Lib.hid (rcheck15_any t w2 _ _ HX_2.out (Nat.le_trans HBK.out (by decide)))
  unfold NV.val at HCALL
  simp only [] at HCALL
  go_wp2_with fail
  refine HCALL.out.mono ?_
  rintro e w3 ⟨rfl, hb⟩
  clear HCALL
  clear n0 n1 n2 n3 n4 n5 n6 n7 n8 n9 n10 n11 ln
  have HB_3 := Lib.hid (HB_2.out.trans (hb.mono HB_2.out.size))
  have HE_3 := Lib.hid (HE_2.out.below hb)
  have HN_3 := Lib.hid (HN_2.out.belowW hb)
  have HX_3 := Lib.hid (HX_2.out.belowW hb)
  clear HB_2 HE_2 HN_2 HX_2
  clear hb
  clear hd
  by_cases hg : goodN t = true
  case neg =>
    rw [chkN_no (by simpa using hg)]
    go_wp2
    go_ret
    exact ⟨rfl, HB_3.out⟩
  rw [chkN_yes hg]
  have HG := Lib.hid hg
  have HKB := Lib.hid (show bkN t ≤ 2000000 from Nat.le_trans HBK.out (by decide))
  have HGC := Lib.hid (canon_good t hg)
  have HKC := Lib.hid (show bkN (canonN t) ≤ 2000000 from Nat.le_trans (canon_bk t) HKB.out)
  have HSH := Lib.hid (form_short hg HBK.out HW.out)
  clear hg
  obtain ⟨u, hu⟩ : ∃ u, u = IntKind.u64.wrap wth := ⟨_, rfl⟩
  have hub : 0 ≤ u ∧ u < 18446744073709551616 := by rw [hu, IntKind.wrap_u64]; omega
  have hu2 := hu.symm
  obtain ⟨nn, hnn⟩ : ∃ nn : Nat, u % 1000000000 = (nn : Int) := ⟨(u % 1000000000).toNat, by omega⟩
  have HNN := Lib.hid (show nn ≤ 999999999 from by omega)
  clear hu
  obtain ⟨fs, hfs⟩ : ∃ fs, str (formN (canonN t)) = fs := ⟨_, rfl⟩
  obtain ⟨d, hnd⟩ : ∃ d, nestN (canonN t) = d := ⟨_, rfl⟩
  obtain ⟨c, hcc⟩ : ∃ c, canonN t = c := ⟨_, rfl⟩
  have HDB := Lib.hid (show d ≤ 4000000 from by have h1 := nest_bk (canonN t); have h2 := HKC.out; omega)
  rw [hcc] at hfs hnd HGC HKC HSH
  have HFS := Lib.hid hfs; have HND := Lib.hid hnd; have HCC := Lib.hid hcc
  have HFL := Lib.hid (show fs.size ≤ 10000000 from by rw [← hfs, str_size]; exact HSH.out)
  clear hfs hnd hcc
  have nzz := HN_3.out
  have n0 := nzz.cell 0
  have n1 := nzz.cell 1
  have n2 := nzz.cell 2
  have n3 := nzz.cell 3
  have n4 := nzz.cell 4
  have n5 := nzz.cell 5
  have n6 := nzz.cell 6
  have n7 := nzz.cell 7
  have n8 := nzz.cell 8
  have n9 := nzz.cell 9
  have n10 := nzz.cell 10
  have n11 := nzz.cell 11
  have ln := nzz.lt
  simp only [List.getElem?_toArray, List.getElem?_cons_zero, List.getElem?_cons_succ] at n0 n1 n2 n3 n4 n5 n6 n7 n8 n9 n10 n11
  clear nzz
  have HCALL := Lib.hid (pprint_as HG.out HCC.out HFS.out HX_3.out HKB.out HE_3.out)
  unfold NV.val at HCALL
  simp only [] at HCALL
  go_wp2_with fail
  refine HCALL.out.mono ?_
  rintro e w4 ⟨hb, rfl⟩
  clear HCALL
  clear n0 n1 n2 n3 n4 n5 n6 n7 n8 n9 n10 n11 ln
  have HB_4 := Lib.hid (HB_3.out.trans (hb.mono HB_3.out.size))
  have HE_4 := Lib.hid (HE_3.out.below hb)
  have HN_4 := Lib.hid (HN_3.out.belowW hb)
  have HX_4 := Lib.hid (HX_3.out.belowW hb)
  clear HB_3 HE_3 HN_3 HX_3
  clear hb
  clear hub hu2 hnn
  have nzz := HN_4.out
  have n0 := nzz.cell 0
  have n1 := nzz.cell 1
  have n2 := nzz.cell 2
  have n3 := nzz.cell 3
  have n4 := nzz.cell 4
  have n5 := nzz.cell 5
  have n6 := nzz.cell 6
  have n7 := nzz.cell 7
  have n8 := nzz.cell 8
  have n9 := nzz.cell 9
  have n10 := nzz.cell 10
  have n11 := nzz.cell 11
  have ln := nzz.lt
  simp only [List.getElem?_toArray, List.getElem?_cons_zero, List.getElem?_cons_succ] at n0 n1 n2 n3 n4 n5 n6 n7 n8 n9 n10 n11
  clear nzz
  have HCALL := Lib.hid (pnest_as HG.out HCC.out HND.out HX_4.out HKB.out HE_4.out)
  unfold NV.val at HCALL
  simp only [] at HCALL
  go_wp2_with fail
  refine HCALL.out.mono ?_
  rintro e w5 ⟨hb, rfl⟩
  clear HCALL
  clear n0 n1 n2 n3 n4 n5 n6 n7 n8 n9 n10 n11 ln
  have HB_5 := Lib.hid (HB_4.out.trans (hb.mono HB_4.out.size))
  have HE_5 := Lib.hid (HE_4.out.below hb)
  have HN_5 := Lib.hid (HN_4.out.belowW hb)
  have HX_5 := Lib.hid (HX_4.out.belowW hb)
  clear HB_4 HE_4 HN_4 HX_4
  clear hb
  have nzz := HN_5.out
  have n0 := nzz.cell 0
  have n1 := nzz.cell 1
  have n2 := nzz.cell 2
  have n3 := nzz.cell 3
  have n4 := nzz.cell 4
  have n5 := nzz.cell 5
  have n6 := nzz.cell 6
  have n7 := nzz.cell 7
  have n8 := nzz.cell 8
  have n9 := nzz.cell 9
  have n10 := nzz.cell 10
  have n11 := nzz.cell 11
  have ln := nzz.lt
  simp only [List.getElem?_toArray, List.getElem?_cons_zero, List.getElem?_cons_succ] at n0 n1 n2 n3 n4 n5 n6 n7 n8 n9 n10 n11
  clear nzz
  have HCALL := Lib.hid (pcanon_as HG.out HCC.out HX_5.out HKB.out HE_5.out)
  unfold NV.val at HCALL
  simp only [] at HCALL
  go_wp2_with fail
  refine HCALL.out.mono ?_
  rintro e w6 ⟨hb, kdC, xnC, flC, txC, laC, lbC, lcC, raC, rbC, rcC, oaC, onC, ocC, kaC, knC, kcC, rfl, hx⟩
  clear HCALL
  clear n0 n1 n2 n3 n4 n5 n6 n7 n8 n9 n10 n11 ln
  have HB_6 := Lib.hid (HB_5.out.trans (hb.mono HB_5.out.size))
  have HE_6 := Lib.hid (HE_5.out.below hb)
  have HN_6 := Lib.hid (HN_5.out.belowW hb)
  have HX_6 := Lib.hid (HX_5.out.belowW hb)
  clear HB_5 HE_5 HN_5 HX_5
  have HY_6 := Lib.hid hx
  clear hb hx
  have hba := (Below.refl w6.heap.size w6).alloc (Nat.le_refl _) (.cells #[.int .i64 kdC, .string (str flC), .string (str txC), .int .i64 xnC, .bool laC, .bool lbC, .string (str lcC), .bool raC, .bool rbC, .string (str rcC), .slice oaC onC ocC, .slice kaC knC kcC] 27)
  have HBXN := Lib.hid (Blk.new w6 27 #[.int .i64 kdC, .string (str flC), .string (str txC), .int .i64 xnC, .bool laC, .bool lbC, .string (str lcC), .bool raC, .bool rbC, .string (str rcC), .slice oaC onC ocC, .slice kaC knC kcC])
  have HB_7 := Lib.hid (HB_6.out.trans (hba.mono HB_6.out.size))
  have HE_7 := Lib.hid (HE_6.out.below hba)
  have HN_7 := Lib.hid (HN_6.out.belowW hba)
  have HX_7 := Lib.hid (HX_6.out.belowW hba)
  have HY_7 := Lib.hid (HY_6.out.belowW hba)
  clear hba HB_6 HE_6 HN_6 HX_6 HY_6
  have HC_7 := Lib.hid HBXN.out
  clear HBXN
  go_upto_region 11 with (fail)
  generalize (w6.alloc (.cells #[.int .i64 kdC, .string (str flC), .string (str txC), .int .i64 xnC, .bool laC, .bool lbC, .string (str lcC), .bool raC, .bool rbC, .string (str rcC), .slice oaC onC ocC, .slice kaC knC kcC] 27)) = w7 at *
  have HK1 := Lib.hid ((Blk.new w7 3 #[.int .i64 13, .int .i64 14, .int .i64 15]).alloc (.cells #[.int .i64 13, .int .i64 14, .int .i64 14] 3))
  have HK2 := Lib.hid (show Blk ((w7.alloc (.cells #[.int .i64 13, .int .i64 14, .int .i64 15] 3)).alloc (.cells #[.int .i64 13, .int .i64 14, .int .i64 14] 3)) (w7.heap.size + 1) 3 #[.int .i64 13, .int .i64 14, .int .i64 14] from by have h := Blk.new (w7.alloc (.cells #[.int .i64 13, .int .i64 14, .int .i64 15] 3)) 3 #[.int .i64 13, .int .i64 14, .int .i64 14]; rw [World.size_alloc] at h; exact h)
  have hb : Below w7.heap.size w7 ((w7.alloc (.cells #[.int .i64 13, .int .i64 14, .int .i64 15] 3)).alloc (.cells #[.int .i64 13, .int .i64 14, .int .i64 14] 3)) := ((Below.refl _ _).alloc (Nat.le_refl _) _).alloc (by rw [World.size_alloc]; exact Nat.le_succ _) _
  have HB_8 := Lib.hid (HB_7.out.trans (hb.mono HB_7.out.size))
  have HE_8 := Lib.hid (HE_7.out.below hb)
  have HN_8 := Lib.hid (HN_7.out.belowW hb)
  have HX_8 := Lib.hid (HX_7.out.belowW hb)
  have HY_8 := Lib.hid (HY_7.out.belowW hb)
  have HC_8 := Lib.hid (HC_7.out.belowW hb)
  clear hb HB_7 HE_7 HN_7 HX_7 HY_7 HC_7
  have HK_8 := Lib.hid HK1.out; have HL_8 := Lib.hid HK2.out
  clear HK1 HK2
  go_wp2_with fail
  generalize ((w7.alloc (.cells #[.int .i64 13, .int .i64 14, .int .i64 15] 3)).alloc (.cells #[.int .i64 13, .int .i64 14, .int .i64 14] 3)) = w8 at *
  have hln := HDB.out
  have hkc : 1 ≤ kdC ∧ kdC ≤ 15 ∧ 0 ≤ xnC := by have h := HY_8.out.kinds HGC.out; exact h
  have HLV := Lib.hid (show levN c = levK kdC xnC from HY_8.out.lev)
  have hsh : (8 ≥ kdC ∧ levK kdC xnC = 6) ∨ (kdC = 9 ∧ 0 < xnC ∧ levK kdC xnC = 6) ∨ (kdC = 9 ∧ ¬ 0 < xnC ∧ levK kdC xnC = 0) ∨ (9 < kdC ∧ kdC < 13 ∧ levK kdC xnC < 4) ∨ (kdC = 13 ∧ levK kdC xnC = 4) ∨ (13 < kdC ∧ levK kdC xnC = 5) := by
    unfold levK
    by_cases h9 : kdC = 9
    · subst h9; by_cases h0 : 0 < xnC
      · rw [if_pos rfl, if_pos h0]; omega
      · rw [if_pos rfl, if_neg h0]; omega
    · rw [if_neg h9]
      by_cases h10 : kdC = 10
      · rw [if_pos h10]; omega
      · rw [if_neg h10]
        by_cases h11 : kdC = 11
        · rw [if_pos h11]; omega
        · rw [if_neg h11]
          by_cases h12 : kdC = 12
          · rw [if_pos h12]; omega
          · rw [if_neg h12]
            by_cases h13 : kdC = 13
            · rw [if_pos h13]; omega
            · rw [if_neg h13]
              by_cases h14 : kdC = 14 ∨ kdC = 15
              · rw [if_pos h14]; omega
              · rw [if_neg h14]; omega
  have HSH6 := Lib.hid hsh; have HKCC := Lib.hid hkc
  have gfs := HFL.out
  clear hsh hkc
  go_loopw [67] (fun iv wr => ∃ j : Nat, j ≤ 3 ∧ iv = .int .i64 (j : Int) ∧ Below w8.heap.size w8 wr) (fun iv _ => 3 - (intOf iv).toNat)
  case atStart => exact ⟨0, by decide, rfl, Below.refl _ _⟩
  case round =>
  obtain ⟨j, hj, rfl, hb⟩ := hrel
  generalize wr = w9 at *
  have HREL := Lib.hid hb
  have HB_9 := Lib.hid (HB_8.out.trans (hb.mono HB_8.out.size))
  have HE_9 := Lib.hid (HE_8.out.below hb)
  have HN_9 := Lib.hid (HN_8.out.belowW hb)
  have HX_9 := Lib.hid (HX_8.out.belowW hb)
  have HY_9 := Lib.hid (HY_8.out.belowW hb)
  have HC_9 := Lib.hid (HC_8.out.belowW hb)
  have HK_9 := Lib.hid (HK_8.out.belowW hb)
  have HL_9 := Lib.hid (HL_8.out.belowW hb)
  clear HB_8 HE_8 HN_8 HX_8 HY_8 HC_8 HK_8 HL_8
  clear hb
  have h4 : j = 0 ∨ j = 1 ∨ j = 2 ∨ j = 3 := by omega
  rcases h4 with rfl | rfl | rfl | rfl
  · have gd := decN_len nn (by have := HNN.out; omega)
    rw [← str_size] at gd
    have s3 := fun W => str_add (P := Tryd.prog) ⟨#[94]⟩ (str (decN nn)) (by rw [show (⟨#[94]⟩ : ByteArray).size = 1 from rfl]; omega) W
    have s4 := fun W => str_add (P := Tryd.prog) ⟨#[94, 61]⟩ (str (decN nn)) (by rw [show (⟨#[94, 61]⟩ : ByteArray).size = 2 from rfl]; omega) W
    have hkk := HK_9.out
    have kk0 := hkk.cell 0; have lkk := hkk.lt
    simp only [List.getElem?_toArray, List.getElem?_cons_zero, List.getElem?_cons_succ] at kk0
    clear hkk
    obtain ⟨sd, hsd⟩ : ∃ sd, str (decN nn) = sd := ⟨_, rfl⟩
    have HDG := Lib.hid (fun W => (by have h := ldigits_any nn (by have := HNN.out; omega) W; rw [hsd] at h; exact h : Calls Tryd.prog 21 #[.int .i64 (nn : Int)] W (StrRet sd W)))
    rw [hsd] at gd
    simp only [hsd] at s3 s4
    have HSD := Lib.hid hsd
    clear hsd
    have nzz := HN_9.out
    have n0 := nzz.cell 0
    have n1 := nzz.cell 1
    have n2 := nzz.cell 2
    have n3 := nzz.cell 3
    have n4 := nzz.cell 4
    have n5 := nzz.cell 5
    have n6 := nzz.cell 6
    have n7 := nzz.cell 7
    have n8 := nzz.cell 8
    have n9 := nzz.cell 9
    have n10 := nzz.cell 10
    have n11 := nzz.cell 11
    have ln := nzz.lt
    simp only [List.getElem?_toArray, List.getElem?_cons_zero, List.getElem?_cons_succ] at n0 n1 n2 n3 n4 n5 n6 n7 n8 n9 n10 n11
    clear nzz
    have HKD := Lib.hid ((Blk.new w9 27 #[.int .i64 kdN, .string (str flN), .string (str txN), .int .i64 xnN, .bool laN, .bool lbN, .string (str lcN), .bool raN, .bool rbN, .string (str rcN), .slice oaN onN ocN, .slice kaN knN kcN]).alloc (.cells #[.int .i64 13, .string ⟨#[]⟩, .string ⟨#[]⟩, .int .i64 (nn : Int), .bool false, .bool false, .string ⟨#[]⟩, .bool false, .bool false, .string ⟨#[]⟩, .slice none 0 0, .slice (some ⟨w9.heap.size, 0, none⟩) 1 1] 27))
    have HAR := Lib.hid (show Blk ((w9.alloc (.cells #[.int .i64 kdN, .string (str flN), .string (str txN), .int .i64 xnN, .bool laN, .bool lbN, .string (str lcN), .bool raN, .bool rbN, .string (str rcN), .slice oaN onN ocN, .slice kaN knN kcN] 27)).alloc (.cells #[.int .i64 13, .string ⟨#[]⟩, .string ⟨#[]⟩, .int .i64 (nn : Int), .bool false, .bool false, .string ⟨#[]⟩, .bool false, .bool false, .string ⟨#[]⟩, .slice none 0 0, .slice (some ⟨w9.heap.size, 0, none⟩) 1 1] 27)) (w9.heap.size + 1) 27 #[.int .i64 13, .string ⟨#[]⟩, .string ⟨#[]⟩, .int .i64 (nn : Int), .bool false, .bool false, .string ⟨#[]⟩, .bool false, .bool false, .string ⟨#[]⟩, .slice none 0 0, .slice (some ⟨w9.heap.size, 0, none⟩) 1 1] from by have h := Blk.new (w9.alloc (.cells #[.int .i64 kdN, .string (str flN), .string (str txN), .int .i64 xnN, .bool laN, .bool lbN, .string (str lcN), .bool raN, .bool rbN, .string (str rcN), .slice oaN onN ocN, .slice kaN knN kcN] 27)) 27 #[.int .i64 13, .string ⟨#[]⟩, .string ⟨#[]⟩, .int .i64 (nn : Int), .bool false, .bool false, .string ⟨#[]⟩, .bool false, .bool false, .string ⟨#[]⟩, .slice none 0 0, .slice (some ⟨w9.heap.size, 0, none⟩) 1 1]; rw [World.size_alloc] at h; exact h)
    have hb : Below w9.heap.size w9 ((w9.alloc (.cells #[.int .i64 kdN, .string (str flN), .string (str txN), .int .i64 xnN, .bool laN, .bool lbN, .string (str lcN), .bool raN, .bool rbN, .string (str rcN), .slice oaN onN ocN, .slice kaN knN kcN] 27)).alloc (.cells #[.int .i64 13, .string ⟨#[]⟩, .string ⟨#[]⟩, .int .i64 (nn : Int), .bool false, .bool false, .string ⟨#[]⟩, .bool false, .bool false, .string ⟨#[]⟩, .slice none 0 0, .slice (some ⟨w9.heap.size, 0, none⟩) 1 1] 27)) := ((Below.refl _ _).alloc (Nat.le_refl _) _).alloc (by rw [World.size_alloc]; exact Nat.le_succ _) _
    go_wp2_with fail
    clear n0 n1 n2 n3 n4 n5 n6 n7 n8 n9 n10 n11 ln
    have HQ := Lib.hid hb
    clear hb
    have HD := Lib.hid HKD.out; have HA := Lib.hid HAR.out
    clear HKD HAR
    generalize ((w9.alloc (.cells #[.int .i64 kdN, .string (str flN), .string (str txN), .int .i64 xnN, .bool laN, .bool lbN, .string (str lcN), .bool raN, .bool rbN, .string (str rcN), .slice oaN onN ocN, .slice kaN knN kcN] 27)).alloc (.cells #[.int .i64 13, .string ⟨#[]⟩, .string ⟨#[]⟩, .int .i64 (nn : Int), .bool false, .bool false, .string ⟨#[]⟩, .bool false, .bool false, .string ⟨#[]⟩, .slice none 0 0, .slice (some ⟨w9.heap.size, 0, none⟩) 1 1] 27)) = w10 at *
    have HCALL := Lib.hid (HDG.out w10)
    skip
    refine HCALL.out.mono ?_
    rintro e w11 ⟨rfl, hb⟩
    clear HCALL
    have HQ2 := Lib.hid (HQ.out.trans (hb.mono HQ.out.size)); have HD2 := Lib.hid (HD.out.belowW hb); have HA2 := Lib.hid (HA.out.belowW hb)
    clear HQ HD HA hb
    have HQ := HQ2; have HD := HD2; have HA := HA2
    clear HQ2 HD2 HA2
    have azz := HA.out
    have a0 := azz.cell 0
    have a1 := azz.cell 1
    have a2 := azz.cell 2
    have a3 := azz.cell 3
    have a4 := azz.cell 4
    have a5 := azz.cell 5
    have a6 := azz.cell 6
    have a7 := azz.cell 7
    have a8 := azz.cell 8
    have a9 := azz.cell 9
    have a10 := azz.cell 10
    have a11 := azz.cell 11
    have fa0 := azz.frozen 0
    have fa1 := azz.frozen 1
    have fa2 := azz.frozen 2
    have fa3 := azz.frozen 3
    have fa4 := azz.frozen 4
    have fa5 := azz.frozen 5
    have fa6 := azz.frozen 6
    have fa7 := azz.frozen 7
    have fa8 := azz.frozen 8
    have fa9 := azz.frozen 9
    have fa10 := azz.frozen 10
    have fa11 := azz.frozen 11
    have la := azz.lt
    simp only [List.getElem?_toArray, List.getElem?_cons_zero, List.getElem?_cons_succ] at a0 a1 a2 a3 a4 a5 a6 a7 a8 a9 a10 a11
    clear azz
    have HA3 := Lib.hid (show Blk (w11.setCell ⟨w9.heap.size + 1, 3, none⟩ (.int .i64 0)) (w9.heap.size + 1) 27 #[.int .i64 13, .string ⟨#[]⟩, .string ⟨#[]⟩, .int .i64 0, .bool false, .bool false, .string ⟨#[]⟩, .bool false, .bool false, .string ⟨#[]⟩, .slice none 0 0, .slice (some ⟨w9.heap.size, 0, none⟩) 1 1] from by have h := HA.out.set_ 3 (.int .i64 0); simp only [List.setIfInBounds_toArray, List.set_cons_zero, List.set_cons_succ] at h; exact h)
    have HD3 := Lib.hid (show Blk (w11.setCell ⟨w9.heap.size + 1, 3, none⟩ (.int .i64 0)) w9.heap.size 27 #[.int .i64 kdN, .string (str flN), .string (str txN), .int .i64 xnN, .bool laN, .bool lbN, .string (str lcN), .bool raN, .bool rbN, .string (str rcN), .slice oaN onN ocN, .slice kaN knN kcN] from HD.out.far (p := ⟨w9.heap.size + 1, 3, none⟩) (by show w9.heap.size ≠ w9.heap.size + 1; omega) _)
    have HQ3 := Lib.hid (show Below w9.heap.size w9 (w11.setCell ⟨w9.heap.size + 1, 3, none⟩ (.int .i64 0)) from Below.setCell HQ.out (by show w9.heap.size ≤ w9.heap.size + 1; exact Nat.le_succ _) _)
    clear HA HD HQ
    have HA := HA3; have HD := HD3; have HQ := HQ3
    clear HA3 HD3 HQ3
    go_upto_region 25 with (fail)
    clear a0 a1 a2 a3 a4 a5 a6 a7 a8 a9 a10 a11 la fa0 fa1 fa2 fa3 fa4 fa5 fa6 fa7 fa8 fa9 fa10 fa11
    generalize (w11.setCell ⟨w9.heap.size + 1, 3, none⟩ (.int .i64 0)) = w12 at *
    have hcc1 := HC_9.out.belowW HQ.out
    have hcc2 := HL_9.out.belowW HQ.out
    have cc0 := hcc1.cell 0; have cc3 := hcc1.cell 3; have ccl := hcc1.lt; have dd0 := hcc2.cell 0; have ddl := hcc2.lt
    simp only [List.getElem?_toArray, List.getElem?_cons_zero, List.getElem?_cons_succ] at cc0 cc3 dd0
    clear kk0 lkk hcc1 hcc2
    go_cut [111] (fun bv wx => bv = .bool (decide (levK kdC xnC < 4)) ∧ Below w12.heap.size w12 wx)
    case first =>
      have HS := HSH6.out
      have hkk := HKCC.out
      rcases HS with ⟨h8, hlv⟩ | ⟨rfl, h0, hlv⟩ | ⟨rfl, h0, hlv⟩ | ⟨h1, h2, hlv⟩ | ⟨rfl, hlv⟩ | ⟨h1, hlv⟩
      · have x2 : ¬ 8 < kdC := by omega
        have x3 : kdC < 13 := by omega
        have x4 : decide ((8 : Int) < kdC) = false := decide_eq_false x2
        have x5 : decide (kdC < (13 : Int)) = true := decide_eq_true x3
        have HR := Lib.hid (show (Value.bool false) = .bool (decide (levK kdC xnC < 4)) from by rw [decide_eq_false (by omega)])
        clear hlv
        go_quiet (fail)
        go_wp2
        go_meet
        exact ⟨by first | exact HR.out | (rw [h0d]; exact HR.out), below_drewN (Below.refl _ _) nq⟩
      · have h0d : decide (0 < xnC) = true := decide_eq_true (by omega)
        have HR := Lib.hid (show (Value.bool false) = .bool (decide (levK 9 xnC < 4)) from by rw [decide_eq_false (by omega)])
        clear hlv
        go_quiet (fail)
        go_wp2
        go_meet
        exact ⟨by first | exact HR.out | (rw [h0d]; exact HR.out), below_drewN (Below.refl _ _) nq⟩
      · have h0d : decide (0 < xnC) = false := decide_eq_false (by omega)
        have HR := Lib.hid (show (Value.bool true) = .bool (decide (levK 9 xnC < 4)) from by rw [decide_eq_true (by omega)])
        clear hlv
        go_quiet (fail)
        go_wp2
        go_meet
        exact ⟨by first | exact HR.out | (rw [h0d]; exact HR.out), below_drewN (Below.refl _ _) nq⟩
      · have x2 : 8 < kdC := by omega
        have x3 : kdC < 13 := by omega
        have x4 : decide ((8 : Int) < kdC) = true := decide_eq_true x2
        have x5 : decide (kdC < (13 : Int)) = true := decide_eq_true x3
        have x6 : (kdC == 9) = false := by rw [beq_eq_false_iff_ne]; omega
        have HR := Lib.hid (show (Value.bool true) = .bool (decide (levK kdC xnC < 4)) from by rw [decide_eq_true (by omega)])
        clear hlv
        go_quiet (fail)
        go_wp2
        go_meet
        exact ⟨by first | exact HR.out | (rw [h0d]; exact HR.out), below_drewN (Below.refl _ _) nq⟩
      · skip
        have HR := Lib.hid (show (Value.bool false) = .bool (decide (levK 13 xnC < 4)) from by rw [decide_eq_false (by omega)])
        clear hlv
        go_quiet (fail)
        go_wp2
        go_meet
        exact ⟨by first | exact HR.out | (rw [h0d]; exact HR.out), below_drewN (Below.refl _ _) nq⟩
      · have x3 : ¬ kdC < 13 := by omega
        have x5 : decide (kdC < (13 : Int)) = false := decide_eq_false x3
        have HR := Lib.hid (show (Value.bool false) = .bool (decide (levK kdC xnC < 4)) from by rw [decide_eq_false (by omega)])
        clear hlv
        go_quiet (fail)
        go_wp2
        go_meet
        exact ⟨by first | exact HR.out | (rw [h0d]; exact HR.out), below_drewN (Below.refl _ _) nq⟩
    case rest =>
    obtain ⟨rfl, hb⟩ := hcut
    generalize wc = w13 at *
    have HQ2 := Lib.hid (HQ.out.trans (hb.mono HQ.out.size)); have HD2 := Lib.hid (HD.out.belowW hb); have HA2 := Lib.hid (HA.out.belowW hb)
    clear HQ HD HA hb cc0 cc3 ccl dd0 ddl
    have HQ := HQ2; have HD := HD2; have HA := HA2
    clear HQ2 HD2 HA2
    by_cases hbr : levK kdC xnC < 4
    · have hdb : decide (levK kdC xnC < 4) = true := decide_eq_true hbr
      rw [hdb]
      have HLB := Lib.hid (show decide (levN c < barK 13 0) = true from by rw [HLV.out]; exact hdb)
      clear hdb hbr
      have HXG := Lib.hid (wrapT_good (K := 13) (N := 0) (t := t) (by have := HNN.out; omega) HG.out)
      have HXC := Lib.hid (wrapT_canon (K := 13) (N := 0) (by omega) HCC.out)
      have HXB := Lib.hid (show bkN (wrapT 13 0 t) ≤ 2000000 from by rw [wrapT_bk]; have := HBK.out; omega)
      have HXN := Lib.hid (show nestN (wrapT 13 0 c) = d + 2 from by rw [wrapT_nest (by omega), if_pos (of_decide_eq_true HLB.out), HND.out])
      have HXF := Lib.hid (show str (formN (wrapT 13 0 c)) = ⟨#[78, 79, 84, 32]⟩ ++ (⟨#[40]⟩ ++ fs ++ ⟨#[41]⟩) ++ ⟨#[]⟩ from by
        rw [wrapT_form (by omega), HLB.out, ← HFS.out]
        refine ba_ext ?_
        rw [str_data, ba_append, ba_append]
        rw [ba_append, ba_append]
        skip
        unfold aroundF brF
        simp [str_data])
      have g1 : (⟨#[78, 79, 84, 32]⟩ : ByteArray).size = 4 := rfl
      have g2 : ((⟨#[40]⟩ ++ fs ++ ⟨#[41]⟩) : ByteArray).size ≤ 10000002 := by rw [ba_append_size, ba_append_size, show (⟨#[40]⟩ : ByteArray).size = 1 from rfl, show (⟨#[41]⟩ : ByteArray).size = 1 from rfl]; omega
      have g3 : (⟨#[]⟩ : ByteArray).size ≤ 30 := by decide
      have hq1 : (⟨#[78, 79, 84, 32]⟩ : ByteArray).size + ((⟨#[40]⟩ ++ fs ++ ⟨#[41]⟩) : ByteArray).size ≤ 20000000 := by omega
      have hq2 : (⟨#[78, 79, 84, 32]⟩ ++ (⟨#[40]⟩ ++ fs ++ ⟨#[41]⟩) : ByteArray).size + (⟨#[]⟩ : ByteArray).size ≤ 30000000 := by rw [ba_append_size]; omega
      clear g1 g2 g3
      have s1 := fun W => str_add (P := Tryd.prog) ⟨#[78, 79, 84, 32]⟩ (⟨#[40]⟩ ++ fs ++ ⟨#[41]⟩) (by omega) W
      have s2 := fun W => str_add (P := Tryd.prog) (⟨#[78, 79, 84, 32]⟩ ++ (⟨#[40]⟩ ++ fs ++ ⟨#[41]⟩)) ⟨#[]⟩ (by omega) W
      have s5 := fun W => str_add (P := Tryd.prog) ⟨#[40]⟩ fs (by rw [show (⟨#[40]⟩ : ByteArray).size = 1 from rfl]; omega) W
      have s6 := fun W => str_add (P := Tryd.prog) (⟨#[40]⟩ ++ fs) ⟨#[41]⟩ (by rw [ba_append_size, show (⟨#[40]⟩ : ByteArray).size = 1 from rfl, show (⟨#[41]⟩ : ByteArray).size = 1 from rfl]; omega) W
      clear hq1 hq2
      have HNX := Lib.hid (fun (W : World) (F : Nat → Prop) (hD : Blk W w9.heap.size 27 #[.int .i64 kdN, .string (str flN), .string (str txN), .int .i64 xnN, .bool laN, .bool lbN, .string (str lcN), .bool raN, .bool rbN, .string (str rcN), .slice oaN onN ocN, .slice kaN knN kcN]) (hF : F w9.heap.size) (hx : NdR W F ⟨kdN, flN, txN, xnN, ⟨laN, lbN, lcN⟩, ⟨raN, rbN, rcN⟩, ⟨oaN, onN, ocN⟩, ⟨kaN, knN, kcN⟩⟩ t) => (show NdR W F ⟨13, [], [], 0, bd0, bd0, ⟨none, 0, 0⟩, ⟨some ⟨w9.heap.size, 0, none⟩, 1, 1⟩⟩ (wrapT 13 0 t) from by
        unfold wrapT
        refine .mk (RdF.nil _ _ _) (RdF.kid (x := ⟨kdN, flN, txN, xnN, ⟨laN, lbN, lcN⟩, ⟨raN, rbN, rcN⟩, ⟨oaN, onN, ocN⟩, ⟨kaN, knN, kcN⟩⟩) hD hF) rfl fun i u v hu hv => ?_
        match i, hu, hv with
        | 0, hu, hv => simp at hu hv; subst hu hv; exact hx
        | i + 1, hu, hv => simp at hu))
      have HXX := Lib.hid (HNX.out w13 (fun _ => True) HD.out trivial ((HX_9.out.belowW HQ.out).mono fun _ _ => trivial))
      have HCALL := Lib.hid (pprint_as HXG.out HXC.out HXF.out HXX.out HXB.out (HE_9.out.below HQ.out))
      unfold NV.val at HCALL
      simp only [bd0] at HCALL
      rw [show str [] = ⟨#[]⟩ from rfl] at HCALL
      have azz := HA.out
      have a0 := azz.cell 0
      have a1 := azz.cell 1
      have a2 := azz.cell 2
      have a3 := azz.cell 3
      have a4 := azz.cell 4
      have a5 := azz.cell 5
      have a6 := azz.cell 6
      have a7 := azz.cell 7
      have a8 := azz.cell 8
      have a9 := azz.cell 9
      have a10 := azz.cell 10
      have a11 := azz.cell 11
      have la := azz.lt
      simp only [List.getElem?_toArray, List.getElem?_cons_zero, List.getElem?_cons_succ] at a0 a1 a2 a3 a4 a5 a6 a7 a8 a9 a10 a11
      clear azz
      go_wp2_with fail
      refine HCALL.out.mono ?_
      rintro e w14 ⟨hb, rfl⟩
      clear HCALL HXX a0 a1 a2 a3 a4 a5 a6 a7 a8 a9 a10 a11 la
      have HQ2 := Lib.hid (HQ.out.trans (hb.mono HQ.out.size)); have HD2 := Lib.hid (HD.out.belowW hb); have HA2 := Lib.hid (HA.out.belowW hb)
      clear HQ HD HA hb
      have HQ := HQ2; have HD := HD2; have HA := HA2
      clear HQ2 HD2 HA2
      have HXX := Lib.hid (HNX.out w14 (fun _ => True) HD.out trivial ((HX_9.out.belowW HQ.out).mono fun _ _ => trivial))
      have HCALL := Lib.hid (pnest_as HXG.out HXC.out HXN.out HXX.out HXB.out (HE_9.out.below HQ.out))
      unfold NV.val at HCALL
      simp only [bd0] at HCALL
      rw [show str [] = ⟨#[]⟩ from rfl] at HCALL
      have azz := HA.out
      have a0 := azz.cell 0
      have a1 := azz.cell 1
      have a2 := azz.cell 2
      have a3 := azz.cell 3
      have a4 := azz.cell 4
      have a5 := azz.cell 5
      have a6 := azz.cell 6
      have a7 := azz.cell 7
      have a8 := azz.cell 8
      have a9 := azz.cell 9
      have a10 := azz.cell 10
      have a11 := azz.cell 11
      have la := azz.lt
      simp only [List.getElem?_toArray, List.getElem?_cons_zero, List.getElem?_cons_succ] at a0 a1 a2 a3 a4 a5 a6 a7 a8 a9 a10 a11
      clear azz
      go_wp2_with fail
      refine HCALL.out.mono ?_
      rintro e w15 ⟨hb, rfl⟩
      clear HCALL HXX a0 a1 a2 a3 a4 a5 a6 a7 a8 a9 a10 a11 la
      have HQ2 := Lib.hid (HQ.out.trans (hb.mono HQ.out.size)); have HD2 := Lib.hid (HD.out.belowW hb); have HA2 := Lib.hid (HA.out.belowW hb)
      clear HQ HD HA hb
      have HQ := HQ2; have HD := HD2; have HA := HA2
      clear HQ2 HD2 HA2
      go_wp2
      go_roundw
      case rel => exact ⟨1, by decide, by first | rfl | go_num, HREL.out.trans (HQ.out.mono HREL.out.size)⟩
      case measure => simp [intOf]
    · have hdb : decide (levK kdC xnC < 4) = false := decide_eq_false hbr
      rw [hdb]
      have HLB := Lib.hid (show decide (levN c < barK 13 0) = false from by rw [HLV.out]; exact hdb)
      clear hdb hbr
      have HXG := Lib.hid (wrapT_good (K := 13) (N := 0) (t := t) (by have := HNN.out; omega) HG.out)
      have HXC := Lib.hid (wrapT_canon (K := 13) (N := 0) (by omega) HCC.out)
      have HXB := Lib.hid (show bkN (wrapT 13 0 t) ≤ 2000000 from by rw [wrapT_bk]; have := HBK.out; omega)
      have HXN := Lib.hid (show nestN (wrapT 13 0 c) = d + 1 from by rw [wrapT_nest (by omega), if_neg (of_decide_eq_false HLB.out), HND.out])
      have HXF := Lib.hid (show str (formN (wrapT 13 0 c)) = ⟨#[78, 79, 84, 32]⟩ ++ fs ++ ⟨#[]⟩ from by
        rw [wrapT_form (by omega), HLB.out, ← HFS.out]
        refine ba_ext ?_
        rw [str_data, ba_append, ba_append]
        skip
        skip
        unfold aroundF brF
        simp [str_data])
      have g1 : (⟨#[78, 79, 84, 32]⟩ : ByteArray).size = 4 := rfl
      have g2 : (fs : ByteArray).size ≤ 10000002 := by omega
      have g3 : (⟨#[]⟩ : ByteArray).size ≤ 30 := by decide
      have hq1 : (⟨#[78, 79, 84, 32]⟩ : ByteArray).size + (fs : ByteArray).size ≤ 20000000 := by omega
      have hq2 : (⟨#[78, 79, 84, 32]⟩ ++ fs : ByteArray).size + (⟨#[]⟩ : ByteArray).size ≤ 30000000 := by rw [ba_append_size]; omega
      clear g1 g2 g3
      have s1 := fun W => str_add (P := Tryd.prog) ⟨#[78, 79, 84, 32]⟩ fs (by omega) W
      have s2 := fun W => str_add (P := Tryd.prog) (⟨#[78, 79, 84, 32]⟩ ++ fs) ⟨#[]⟩ (by omega) W
      have s5 := fun W => str_add (P := Tryd.prog) ⟨#[40]⟩ fs (by rw [show (⟨#[40]⟩ : ByteArray).size = 1 from rfl]; omega) W
      have s6 := fun W => str_add (P := Tryd.prog) (⟨#[40]⟩ ++ fs) ⟨#[41]⟩ (by rw [ba_append_size, show (⟨#[40]⟩ : ByteArray).size = 1 from rfl, show (⟨#[41]⟩ : ByteArray).size = 1 from rfl]; omega) W
      clear hq1 hq2
      have HNX := Lib.hid (fun (W : World) (F : Nat → Prop) (hD : Blk W w9.heap.size 27 #[.int .i64 kdN, .string (str flN), .string (str txN), .int .i64 xnN, .bool laN, .bool lbN, .string (str lcN), .bool raN, .bool rbN, .string (str rcN), .slice oaN onN ocN, .slice kaN knN kcN]) (hF : F w9.heap.size) (hx : NdR W F ⟨kdN, flN, txN, xnN, ⟨laN, lbN, lcN⟩, ⟨raN, rbN, rcN⟩, ⟨oaN, onN, ocN⟩, ⟨kaN, knN, kcN⟩⟩ t) => (show NdR W F ⟨13, [], [], 0, bd0, bd0, ⟨none, 0, 0⟩, ⟨some ⟨w9.heap.size, 0, none⟩, 1, 1⟩⟩ (wrapT 13 0 t) from by
        unfold wrapT
        refine .mk (RdF.nil _ _ _) (RdF.kid (x := ⟨kdN, flN, txN, xnN, ⟨laN, lbN, lcN⟩, ⟨raN, rbN, rcN⟩, ⟨oaN, onN, ocN⟩, ⟨kaN, knN, kcN⟩⟩) hD hF) rfl fun i u v hu hv => ?_
        match i, hu, hv with
        | 0, hu, hv => simp at hu hv; subst hu hv; exact hx
        | i + 1, hu, hv => simp at hu))
      have HXX := Lib.hid (HNX.out w13 (fun _ => True) HD.out trivial ((HX_9.out.belowW HQ.out).mono fun _ _ => trivial))
      have HCALL := Lib.hid (pprint_as HXG.out HXC.out HXF.out HXX.out HXB.out (HE_9.out.below HQ.out))
      unfold NV.val at HCALL
      simp only [bd0] at HCALL
      rw [show str [] = ⟨#[]⟩ from rfl] at HCALL
      have azz := HA.out
      have a0 := azz.cell 0
      have a1 := azz.cell 1
      have a2 := azz.cell 2
      have a3 := azz.cell 3
      have a4 := azz.cell 4
      have a5 := azz.cell 5
      have a6 := azz.cell 6
      have a7 := azz.cell 7
      have a8 := azz.cell 8
      have a9 := azz.cell 9
      have a10 := azz.cell 10
      have a11 := azz.cell 11
      have la := azz.lt
      simp only [List.getElem?_toArray, List.getElem?_cons_zero, List.getElem?_cons_succ] at a0 a1 a2 a3 a4 a5 a6 a7 a8 a9 a10 a11
      clear azz
      go_wp2_with fail
      refine HCALL.out.mono ?_
      rintro e w14 ⟨hb, rfl⟩
      clear HCALL HXX a0 a1 a2 a3 a4 a5 a6 a7 a8 a9 a10 a11 la
      have HQ2 := Lib.hid (HQ.out.trans (hb.mono HQ.out.size)); have HD2 := Lib.hid (HD.out.belowW hb); have HA2 := Lib.hid (HA.out.belowW hb)
      clear HQ HD HA hb
      have HQ := HQ2; have HD := HD2; have HA := HA2
      clear HQ2 HD2 HA2
      have HXX := Lib.hid (HNX.out w14 (fun _ => True) HD.out trivial ((HX_9.out.belowW HQ.out).mono fun _ _ => trivial))
      have HCALL := Lib.hid (pnest_as HXG.out HXC.out HXN.out HXX.out HXB.out (HE_9.out.below HQ.out))
      unfold NV.val at HCALL
      simp only [bd0] at HCALL
      rw [show str [] = ⟨#[]⟩ from rfl] at HCALL
      have azz := HA.out
      have a0 := azz.cell 0
      have a1 := azz.cell 1
      have a2 := azz.cell 2
      have a3 := azz.cell 3
      have a4 := azz.cell 4
      have a5 := azz.cell 5
      have a6 := azz.cell 6
      have a7 := azz.cell 7
      have a8 := azz.cell 8
      have a9 := azz.cell 9
      have a10 := azz.cell 10
      have a11 := azz.cell 11
      have la := azz.lt
      simp only [List.getElem?_toArray, List.getElem?_cons_zero, List.getElem?_cons_succ] at a0 a1 a2 a3 a4 a5 a6 a7 a8 a9 a10 a11
      clear azz
      go_wp2_with fail
      refine HCALL.out.mono ?_
      rintro e w15 ⟨hb, rfl⟩
      clear HCALL HXX a0 a1 a2 a3 a4 a5 a6 a7 a8 a9 a10 a11 la
      have HQ2 := Lib.hid (HQ.out.trans (hb.mono HQ.out.size)); have HD2 := Lib.hid (HD.out.belowW hb); have HA2 := Lib.hid (HA.out.belowW hb)
      clear HQ HD HA hb
      have HQ := HQ2; have HD := HD2; have HA := HA2
      clear HQ2 HD2 HA2
      go_wp2
      go_roundw
      case rel => exact ⟨1, by decide, by first | rfl | go_num, HREL.out.trans (HQ.out.mono HREL.out.size)⟩
      case measure => simp [intOf]
  · have gd := decN_len nn (by have := HNN.out; omega)
    rw [← str_size] at gd
    have s3 := fun W => str_add (P := Tryd.prog) ⟨#[94]⟩ (str (decN nn)) (by rw [show (⟨#[94]⟩ : ByteArray).size = 1 from rfl]; omega) W
    have s4 := fun W => str_add (P := Tryd.prog) ⟨#[94, 61]⟩ (str (decN nn)) (by rw [show (⟨#[94, 61]⟩ : ByteArray).size = 2 from rfl]; omega) W
    have hkk := HK_9.out
    have kk0 := hkk.cell 1; have lkk := hkk.lt
    simp only [List.getElem?_toArray, List.getElem?_cons_zero, List.getElem?_cons_succ] at kk0
    clear hkk
    obtain ⟨sd, hsd⟩ : ∃ sd, str (decN nn) = sd := ⟨_, rfl⟩
    have HDG := Lib.hid (fun W => (by have h := ldigits_any nn (by have := HNN.out; omega) W; rw [hsd] at h; exact h : Calls Tryd.prog 21 #[.int .i64 (nn : Int)] W (StrRet sd W)))
    rw [hsd] at gd
    simp only [hsd] at s3 s4
    have HSD := Lib.hid hsd
    clear hsd
    have nzz := HN_9.out
    have n0 := nzz.cell 0
    have n1 := nzz.cell 1
    have n2 := nzz.cell 2
    have n3 := nzz.cell 3
    have n4 := nzz.cell 4
    have n5 := nzz.cell 5
    have n6 := nzz.cell 6
    have n7 := nzz.cell 7
    have n8 := nzz.cell 8
    have n9 := nzz.cell 9
    have n10 := nzz.cell 10
    have n11 := nzz.cell 11
    have ln := nzz.lt
    simp only [List.getElem?_toArray, List.getElem?_cons_zero, List.getElem?_cons_succ] at n0 n1 n2 n3 n4 n5 n6 n7 n8 n9 n10 n11
    clear nzz
    have HKD := Lib.hid ((Blk.new w9 27 #[.int .i64 kdN, .string (str flN), .string (str txN), .int .i64 xnN, .bool laN, .bool lbN, .string (str lcN), .bool raN, .bool rbN, .string (str rcN), .slice oaN onN ocN, .slice kaN knN kcN]).alloc (.cells #[.int .i64 14, .string ⟨#[]⟩, .string ⟨#[]⟩, .int .i64 (nn : Int), .bool false, .bool false, .string ⟨#[]⟩, .bool false, .bool false, .string ⟨#[]⟩, .slice none 0 0, .slice (some ⟨w9.heap.size, 0, none⟩) 1 1] 27))
    have HAR := Lib.hid (show Blk ((w9.alloc (.cells #[.int .i64 kdN, .string (str flN), .string (str txN), .int .i64 xnN, .bool laN, .bool lbN, .string (str lcN), .bool raN, .bool rbN, .string (str rcN), .slice oaN onN ocN, .slice kaN knN kcN] 27)).alloc (.cells #[.int .i64 14, .string ⟨#[]⟩, .string ⟨#[]⟩, .int .i64 (nn : Int), .bool false, .bool false, .string ⟨#[]⟩, .bool false, .bool false, .string ⟨#[]⟩, .slice none 0 0, .slice (some ⟨w9.heap.size, 0, none⟩) 1 1] 27)) (w9.heap.size + 1) 27 #[.int .i64 14, .string ⟨#[]⟩, .string ⟨#[]⟩, .int .i64 (nn : Int), .bool false, .bool false, .string ⟨#[]⟩, .bool false, .bool false, .string ⟨#[]⟩, .slice none 0 0, .slice (some ⟨w9.heap.size, 0, none⟩) 1 1] from by have h := Blk.new (w9.alloc (.cells #[.int .i64 kdN, .string (str flN), .string (str txN), .int .i64 xnN, .bool laN, .bool lbN, .string (str lcN), .bool raN, .bool rbN, .string (str rcN), .slice oaN onN ocN, .slice kaN knN kcN] 27)) 27 #[.int .i64 14, .string ⟨#[]⟩, .string ⟨#[]⟩, .int .i64 (nn : Int), .bool false, .bool false, .string ⟨#[]⟩, .bool false, .bool false, .string ⟨#[]⟩, .slice none 0 0, .slice (some ⟨w9.heap.size, 0, none⟩) 1 1]; rw [World.size_alloc] at h; exact h)
    have hb : Below w9.heap.size w9 ((w9.alloc (.cells #[.int .i64 kdN, .string (str flN), .string (str txN), .int .i64 xnN, .bool laN, .bool lbN, .string (str lcN), .bool raN, .bool rbN, .string (str rcN), .slice oaN onN ocN, .slice kaN knN kcN] 27)).alloc (.cells #[.int .i64 14, .string ⟨#[]⟩, .string ⟨#[]⟩, .int .i64 (nn : Int), .bool false, .bool false, .string ⟨#[]⟩, .bool false, .bool false, .string ⟨#[]⟩, .slice none 0 0, .slice (some ⟨w9.heap.size, 0, none⟩) 1 1] 27)) := ((Below.refl _ _).alloc (Nat.le_refl _) _).alloc (by rw [World.size_alloc]; exact Nat.le_succ _) _
    go_wp2_with fail
    clear n0 n1 n2 n3 n4 n5 n6 n7 n8 n9 n10 n11 ln
    have HQ := Lib.hid hb
    clear hb
    have HD := Lib.hid HKD.out; have HA := Lib.hid HAR.out
    clear HKD HAR
    generalize ((w9.alloc (.cells #[.int .i64 kdN, .string (str flN), .string (str txN), .int .i64 xnN, .bool laN, .bool lbN, .string (str lcN), .bool raN, .bool rbN, .string (str rcN), .slice oaN onN ocN, .slice kaN knN kcN] 27)).alloc (.cells #[.int .i64 14, .string ⟨#[]⟩, .string ⟨#[]⟩, .int .i64 (nn : Int), .bool false, .bool false, .string ⟨#[]⟩, .bool false, .bool false, .string ⟨#[]⟩, .slice none 0 0, .slice (some ⟨w9.heap.size, 0, none⟩) 1 1] 27)) = w10 at *
    have HCALL := Lib.hid (HDG.out w10)
    skip
    refine HCALL.out.mono ?_
    rintro e w11 ⟨rfl, hb⟩
    clear HCALL
    have HQ2 := Lib.hid (HQ.out.trans (hb.mono HQ.out.size)); have HD2 := Lib.hid (HD.out.belowW hb); have HA2 := Lib.hid (HA.out.belowW hb)
    clear HQ HD HA hb
    have HQ := HQ2; have HD := HD2; have HA := HA2
    clear HQ2 HD2 HA2
    go_upto_region 25 with (fail)
    have hcc1 := HC_9.out.belowW HQ.out
    have hcc2 := HL_9.out.belowW HQ.out
    have cc0 := hcc1.cell 0; have cc3 := hcc1.cell 3; have ccl := hcc1.lt; have dd0 := hcc2.cell 1; have ddl := hcc2.lt
    simp only [List.getElem?_toArray, List.getElem?_cons_zero, List.getElem?_cons_succ] at cc0 cc3 dd0
    clear kk0 lkk hcc1 hcc2
    go_cut [111] (fun bv wx => bv = .bool (decide (levK kdC xnC < 5)) ∧ Below w11.heap.size w11 wx)
    case first =>
      have HS := HSH6.out
      have hkk := HKCC.out
      rcases HS with ⟨h8, hlv⟩ | ⟨rfl, h0, hlv⟩ | ⟨rfl, h0, hlv⟩ | ⟨h1, h2, hlv⟩ | ⟨rfl, hlv⟩ | ⟨h1, hlv⟩
      · have x2 : ¬ 8 < kdC := by omega
        have x3 : kdC < 14 := by omega
        have x4 : decide ((8 : Int) < kdC) = false := decide_eq_false x2
        have x5 : decide (kdC < (14 : Int)) = true := decide_eq_true x3
        have HR := Lib.hid (show (Value.bool false) = .bool (decide (levK kdC xnC < 5)) from by rw [decide_eq_false (by omega)])
        clear hlv
        go_quiet (fail)
        go_wp2
        go_meet
        exact ⟨by first | exact HR.out | (rw [h0d]; exact HR.out), below_drewN (Below.refl _ _) nq⟩
      · have h0d : decide (0 < xnC) = true := decide_eq_true (by omega)
        have HR := Lib.hid (show (Value.bool false) = .bool (decide (levK 9 xnC < 5)) from by rw [decide_eq_false (by omega)])
        clear hlv
        go_quiet (fail)
        go_wp2
        go_meet
        exact ⟨by first | exact HR.out | (rw [h0d]; exact HR.out), below_drewN (Below.refl _ _) nq⟩
      · have h0d : decide (0 < xnC) = false := decide_eq_false (by omega)
        have HR := Lib.hid (show (Value.bool true) = .bool (decide (levK 9 xnC < 5)) from by rw [decide_eq_true (by omega)])
        clear hlv
        go_quiet (fail)
        go_wp2
        go_meet
        exact ⟨by first | exact HR.out | (rw [h0d]; exact HR.out), below_drewN (Below.refl _ _) nq⟩
      · have x2 : 8 < kdC := by omega
        have x3 : kdC < 14 := by omega
        have x4 : decide ((8 : Int) < kdC) = true := decide_eq_true x2
        have x5 : decide (kdC < (14 : Int)) = true := decide_eq_true x3
        have x6 : (kdC == 9) = false := by rw [beq_eq_false_iff_ne]; omega
        have HR := Lib.hid (show (Value.bool true) = .bool (decide (levK kdC xnC < 5)) from by rw [decide_eq_true (by omega)])
        clear hlv
        go_quiet (fail)
        go_wp2
        go_meet
        exact ⟨by first | exact HR.out | (rw [h0d]; exact HR.out), below_drewN (Below.refl _ _) nq⟩
      · skip
        have HR := Lib.hid (show (Value.bool true) = .bool (decide (levK 13 xnC < 5)) from by rw [decide_eq_true (by omega)])
        clear hlv
        go_quiet (fail)
        go_wp2
        go_meet
        exact ⟨by first | exact HR.out | (rw [h0d]; exact HR.out), below_drewN (Below.refl _ _) nq⟩
      · have x3 : ¬ kdC < 14 := by omega
        have x5 : decide (kdC < (14 : Int)) = false := decide_eq_false x3
        have HR := Lib.hid (show (Value.bool false) = .bool (decide (levK kdC xnC < 5)) from by rw [decide_eq_false (by omega)])
        clear hlv
        go_quiet (fail)
        go_wp2
        go_meet
        exact ⟨by first | exact HR.out | (rw [h0d]; exact HR.out), below_drewN (Below.refl _ _) nq⟩
    case rest =>
    obtain ⟨rfl, hb⟩ := hcut
    generalize wc = w12 at *
    have HQ2 := Lib.hid (HQ.out.trans (hb.mono HQ.out.size)); have HD2 := Lib.hid (HD.out.belowW hb); have HA2 := Lib.hid (HA.out.belowW hb)
    clear HQ HD HA hb cc0 cc3 ccl dd0 ddl
    have HQ := HQ2; have HD := HD2; have HA := HA2
    clear HQ2 HD2 HA2
    by_cases hbr : levK kdC xnC < 5
    · have hdb : decide (levK kdC xnC < 5) = true := decide_eq_true hbr
      rw [hdb]
      have HLB := Lib.hid (show decide (levN c < barK 14 0) = true from by rw [HLV.out]; exact hdb)
      clear hdb hbr
      have HXG := Lib.hid (wrapT_good (K := 14) (N := (nn : Int)) (t := t) (by have := HNN.out; omega) HG.out)
      have HXC := Lib.hid (wrapT_canon (K := 14) (N := (nn : Int)) (by omega) HCC.out)
      have HXB := Lib.hid (show bkN (wrapT 14 (nn : Int) t) ≤ 2000000 from by rw [wrapT_bk]; have := HBK.out; omega)
      have HXN := Lib.hid (show nestN (wrapT 14 (nn : Int) c) = d + 2 from by rw [wrapT_nest (by omega), if_pos (of_decide_eq_true HLB.out), HND.out])
      have HXF := Lib.hid (show str (formN (wrapT 14 (nn : Int) c)) = ⟨#[]⟩ ++ (⟨#[40]⟩ ++ fs ++ ⟨#[41]⟩) ++ (⟨#[94]⟩ ++ sd) from by
        rw [wrapT_form (by omega), HLB.out, ← HFS.out, ← HSD.out]
        refine ba_ext ?_
        rw [str_data, ba_append, ba_append]
        rw [ba_append, ba_append]
        rw [ba_append]
        unfold aroundF brF
        simp [str_data])
      have g1 : (⟨#[]⟩ : ByteArray).size = 0 := rfl
      have g2 : ((⟨#[40]⟩ ++ fs ++ ⟨#[41]⟩) : ByteArray).size ≤ 10000002 := by rw [ba_append_size, ba_append_size, show (⟨#[40]⟩ : ByteArray).size = 1 from rfl, show (⟨#[41]⟩ : ByteArray).size = 1 from rfl]; omega
      have g3 : ((⟨#[94]⟩ ++ sd) : ByteArray).size ≤ 30 := by rw [ba_append_size, show (⟨#[94]⟩ : ByteArray).size = 1 from rfl]; omega
      have hq1 : (⟨#[]⟩ : ByteArray).size + ((⟨#[40]⟩ ++ fs ++ ⟨#[41]⟩) : ByteArray).size ≤ 20000000 := by omega
      have hq2 : (⟨#[]⟩ ++ (⟨#[40]⟩ ++ fs ++ ⟨#[41]⟩) : ByteArray).size + ((⟨#[94]⟩ ++ sd) : ByteArray).size ≤ 30000000 := by rw [ba_append_size]; omega
      clear g1 g2 g3
      have s1 := fun W => str_add (P := Tryd.prog) ⟨#[]⟩ (⟨#[40]⟩ ++ fs ++ ⟨#[41]⟩) (by omega) W
      have s2 := fun W => str_add (P := Tryd.prog) (⟨#[]⟩ ++ (⟨#[40]⟩ ++ fs ++ ⟨#[41]⟩)) (⟨#[94]⟩ ++ sd) (by omega) W
      have s5 := fun W => str_add (P := Tryd.prog) ⟨#[40]⟩ fs (by rw [show (⟨#[40]⟩ : ByteArray).size = 1 from rfl]; omega) W
      have s6 := fun W => str_add (P := Tryd.prog) (⟨#[40]⟩ ++ fs) ⟨#[41]⟩ (by rw [ba_append_size, show (⟨#[40]⟩ : ByteArray).size = 1 from rfl, show (⟨#[41]⟩ : ByteArray).size = 1 from rfl]; omega) W
      clear hq1 hq2
      have HNX := Lib.hid (fun (W : World) (F : Nat → Prop) (hD : Blk W w9.heap.size 27 #[.int .i64 kdN, .string (str flN), .string (str txN), .int .i64 xnN, .bool laN, .bool lbN, .string (str lcN), .bool raN, .bool rbN, .string (str rcN), .slice oaN onN ocN, .slice kaN knN kcN]) (hF : F w9.heap.size) (hx : NdR W F ⟨kdN, flN, txN, xnN, ⟨laN, lbN, lcN⟩, ⟨raN, rbN, rcN⟩, ⟨oaN, onN, ocN⟩, ⟨kaN, knN, kcN⟩⟩ t) => (show NdR W F ⟨14, [], [], (nn : Int), bd0, bd0, ⟨none, 0, 0⟩, ⟨some ⟨w9.heap.size, 0, none⟩, 1, 1⟩⟩ (wrapT 14 (nn : Int) t) from by
        unfold wrapT
        refine .mk (RdF.nil _ _ _) (RdF.kid (x := ⟨kdN, flN, txN, xnN, ⟨laN, lbN, lcN⟩, ⟨raN, rbN, rcN⟩, ⟨oaN, onN, ocN⟩, ⟨kaN, knN, kcN⟩⟩) hD hF) rfl fun i u v hu hv => ?_
        match i, hu, hv with
        | 0, hu, hv => simp at hu hv; subst hu hv; exact hx
        | i + 1, hu, hv => simp at hu))
      have HXX := Lib.hid (HNX.out w12 (fun _ => True) HD.out trivial ((HX_9.out.belowW HQ.out).mono fun _ _ => trivial))
      have HCALL := Lib.hid (pprint_as HXG.out HXC.out HXF.out HXX.out HXB.out (HE_9.out.below HQ.out))
      unfold NV.val at HCALL
      simp only [bd0] at HCALL
      rw [show str [] = ⟨#[]⟩ from rfl] at HCALL
      have azz := HA.out
      have a0 := azz.cell 0
      have a1 := azz.cell 1
      have a2 := azz.cell 2
      have a3 := azz.cell 3
      have a4 := azz.cell 4
      have a5 := azz.cell 5
      have a6 := azz.cell 6
      have a7 := azz.cell 7
      have a8 := azz.cell 8
      have a9 := azz.cell 9
      have a10 := azz.cell 10
      have a11 := azz.cell 11
      have la := azz.lt
      simp only [List.getElem?_toArray, List.getElem?_cons_zero, List.getElem?_cons_succ] at a0 a1 a2 a3 a4 a5 a6 a7 a8 a9 a10 a11
      clear azz
      go_wp2_with fail
      refine HCALL.out.mono ?_
      rintro e w13 ⟨hb, rfl⟩
      clear HCALL HXX a0 a1 a2 a3 a4 a5 a6 a7 a8 a9 a10 a11 la
      have HQ2 := Lib.hid (HQ.out.trans (hb.mono HQ.out.size)); have HD2 := Lib.hid (HD.out.belowW hb); have HA2 := Lib.hid (HA.out.belowW hb)
      clear HQ HD HA hb
      have HQ := HQ2; have HD := HD2; have HA := HA2
      clear HQ2 HD2 HA2
      have HXX := Lib.hid (HNX.out w13 (fun _ => True) HD.out trivial ((HX_9.out.belowW HQ.out).mono fun _ _ => trivial))
      have HCALL := Lib.hid (pnest_as HXG.out HXC.out HXN.out HXX.out HXB.out (HE_9.out.below HQ.out))
      unfold NV.val at HCALL
      simp only [bd0] at HCALL
      rw [show str [] = ⟨#[]⟩ from rfl] at HCALL
      have azz := HA.out
      have a0 := azz.cell 0
      have a1 := azz.cell 1
      have a2 := azz.cell 2
      have a3 := azz.cell 3
      have a4 := azz.cell 4
      have a5 := azz.cell 5
      have a6 := azz.cell 6
      have a7 := azz.cell 7
      have a8 := azz.cell 8
      have a9 := azz.cell 9
      have a10 := azz.cell 10
      have a11 := azz.cell 11
      have la := azz.lt
      simp only [List.getElem?_toArray, List.getElem?_cons_zero, List.getElem?_cons_succ] at a0 a1 a2 a3 a4 a5 a6 a7 a8 a9 a10 a11
      clear azz
      go_wp2_with fail
      refine HCALL.out.mono ?_
      rintro e w14 ⟨hb, rfl⟩
      clear HCALL HXX a0 a1 a2 a3 a4 a5 a6 a7 a8 a9 a10 a11 la
      have HQ2 := Lib.hid (HQ.out.trans (hb.mono HQ.out.size)); have HD2 := Lib.hid (HD.out.belowW hb); have HA2 := Lib.hid (HA.out.belowW hb)
      clear HQ HD HA hb
      have HQ := HQ2; have HD := HD2; have HA := HA2
      clear HQ2 HD2 HA2
      go_wp2
      go_roundw
      case rel => exact ⟨2, by decide, by first | rfl | go_num, HREL.out.trans (HQ.out.mono HREL.out.size)⟩
      case measure => simp [intOf]
    · have hdb : decide (levK kdC xnC < 5) = false := decide_eq_false hbr
      rw [hdb]
      have HLB := Lib.hid (show decide (levN c < barK 14 0) = false from by rw [HLV.out]; exact hdb)
      clear hdb hbr
      have HXG := Lib.hid (wrapT_good (K := 14) (N := (nn : Int)) (t := t) (by have := HNN.out; omega) HG.out)
      have HXC := Lib.hid (wrapT_canon (K := 14) (N := (nn : Int)) (by omega) HCC.out)
      have HXB := Lib.hid (show bkN (wrapT 14 (nn : Int) t) ≤ 2000000 from by rw [wrapT_bk]; have := HBK.out; omega)
      have HXN := Lib.hid (show nestN (wrapT 14 (nn : Int) c) = d + 1 from by rw [wrapT_nest (by omega), if_neg (of_decide_eq_false HLB.out), HND.out])
      have HXF := Lib.hid (show str (formN (wrapT 14 (nn : Int) c)) = ⟨#[]⟩ ++ fs ++ (⟨#[94]⟩ ++ sd) from by
        rw [wrapT_form (by omega), HLB.out, ← HFS.out, ← HSD.out]
        refine ba_ext ?_
        rw [str_data, ba_append, ba_append]
        skip
        rw [ba_append]
        unfold aroundF brF
        simp [str_data])
      have g1 : (⟨#[]⟩ : ByteArray).size = 0 := rfl
      have g2 : (fs : ByteArray).size ≤ 10000002 := by omega
      have g3 : ((⟨#[94]⟩ ++ sd) : ByteArray).size ≤ 30 := by rw [ba_append_size, show (⟨#[94]⟩ : ByteArray).size = 1 from rfl]; omega
      have hq1 : (⟨#[]⟩ : ByteArray).size + (fs : ByteArray).size ≤ 20000000 := by omega
      have hq2 : (⟨#[]⟩ ++ fs : ByteArray).size + ((⟨#[94]⟩ ++ sd) : ByteArray).size ≤ 30000000 := by rw [ba_append_size]; omega
      clear g1 g2 g3
      have s1 := fun W => str_add (P := Tryd.prog) ⟨#[]⟩ fs (by omega) W
      have s2 := fun W => str_add (P := Tryd.prog) (⟨#[]⟩ ++ fs) (⟨#[94]⟩ ++ sd) (by omega) W
      have s5 := fun W => str_add (P := Tryd.prog) ⟨#[40]⟩ fs (by rw [show (⟨#[40]⟩ : ByteArray).size = 1 from rfl]; omega) W
      have s6 := fun W => str_add (P := Tryd.prog) (⟨#[40]⟩ ++ fs) ⟨#[41]⟩ (by rw [ba_append_size, show (⟨#[40]⟩ : ByteArray).size = 1 from rfl, show (⟨#[41]⟩ : ByteArray).size = 1 from rfl]; omega) W
      clear hq1 hq2
      have HNX := Lib.hid (fun (W : World) (F : Nat → Prop) (hD : Blk W w9.heap.size 27 #[.int .i64 kdN, .string (str flN), .string (str txN), .int .i64 xnN, .bool laN, .bool lbN, .string (str lcN), .bool raN, .bool rbN, .string (str rcN), .slice oaN onN ocN, .slice kaN knN kcN]) (hF : F w9.heap.size) (hx : NdR W F ⟨kdN, flN, txN, xnN, ⟨laN, lbN, lcN⟩, ⟨raN, rbN, rcN⟩, ⟨oaN, onN, ocN⟩, ⟨kaN, knN, kcN⟩⟩ t) => (show NdR W F ⟨14, [], [], (nn : Int), bd0, bd0, ⟨none, 0, 0⟩, ⟨some ⟨w9.heap.size, 0, none⟩, 1, 1⟩⟩ (wrapT 14 (nn : Int) t) from by
        unfold wrapT
        refine .mk (RdF.nil _ _ _) (RdF.kid (x := ⟨kdN, flN, txN, xnN, ⟨laN, lbN, lcN⟩, ⟨raN, rbN, rcN⟩, ⟨oaN, onN, ocN⟩, ⟨kaN, knN, kcN⟩⟩) hD hF) rfl fun i u v hu hv => ?_
        match i, hu, hv with
        | 0, hu, hv => simp at hu hv; subst hu hv; exact hx
        | i + 1, hu, hv => simp at hu))
      have HXX := Lib.hid (HNX.out w12 (fun _ => True) HD.out trivial ((HX_9.out.belowW HQ.out).mono fun _ _ => trivial))
      have HCALL := Lib.hid (pprint_as HXG.out HXC.out HXF.out HXX.out HXB.out (HE_9.out.below HQ.out))
      unfold NV.val at HCALL
      simp only [bd0] at HCALL
      rw [show str [] = ⟨#[]⟩ from rfl] at HCALL
      have azz := HA.out
      have a0 := azz.cell 0
      have a1 := azz.cell 1
      have a2 := azz.cell 2
      have a3 := azz.cell 3
      have a4 := azz.cell 4
      have a5 := azz.cell 5
      have a6 := azz.cell 6
      have a7 := azz.cell 7
      have a8 := azz.cell 8
      have a9 := azz.cell 9
      have a10 := azz.cell 10
      have a11 := azz.cell 11
      have la := azz.lt
      simp only [List.getElem?_toArray, List.getElem?_cons_zero, List.getElem?_cons_succ] at a0 a1 a2 a3 a4 a5 a6 a7 a8 a9 a10 a11
      clear azz
      go_wp2_with fail
      refine HCALL.out.mono ?_
      rintro e w13 ⟨hb, rfl⟩
      clear HCALL HXX a0 a1 a2 a3 a4 a5 a6 a7 a8 a9 a10 a11 la
      have HQ2 := Lib.hid (HQ.out.trans (hb.mono HQ.out.size)); have HD2 := Lib.hid (HD.out.belowW hb); have HA2 := Lib.hid (HA.out.belowW hb)
      clear HQ HD HA hb
      have HQ := HQ2; have HD := HD2; have HA := HA2
      clear HQ2 HD2 HA2
      have HXX := Lib.hid (HNX.out w13 (fun _ => True) HD.out trivial ((HX_9.out.belowW HQ.out).mono fun _ _ => trivial))
      have HCALL := Lib.hid (pnest_as HXG.out HXC.out HXN.out HXX.out HXB.out (HE_9.out.below HQ.out))
      unfold NV.val at HCALL
      simp only [bd0] at HCALL
      rw [show str [] = ⟨#[]⟩ from rfl] at HCALL
      have azz := HA.out
      have a0 := azz.cell 0
      have a1 := azz.cell 1
      have a2 := azz.cell 2
      have a3 := azz.cell 3
      have a4 := azz.cell 4
      have a5 := azz.cell 5
      have a6 := azz.cell 6
      have a7 := azz.cell 7
      have a8 := azz.cell 8
      have a9 := azz.cell 9
      have a10 := azz.cell 10
      have a11 := azz.cell 11
      have la := azz.lt
      simp only [List.getElem?_toArray, List.getElem?_cons_zero, List.getElem?_cons_succ] at a0 a1 a2 a3 a4 a5 a6 a7 a8 a9 a10 a11
      clear azz
      go_wp2_with fail
      refine HCALL.out.mono ?_
      rintro e w14 ⟨hb, rfl⟩
      clear HCALL HXX a0 a1 a2 a3 a4 a5 a6 a7 a8 a9 a10 a11 la
      have HQ2 := Lib.hid (HQ.out.trans (hb.mono HQ.out.size)); have HD2 := Lib.hid (HD.out.belowW hb); have HA2 := Lib.hid (HA.out.belowW hb)
      clear HQ HD HA hb
      have HQ := HQ2; have HD := HD2; have HA := HA2
      clear HQ2 HD2 HA2
      go_wp2
      go_roundw
      case rel => exact ⟨2, by decide, by first | rfl | go_num, HREL.out.trans (HQ.out.mono HREL.out.size)⟩
      case measure => simp [intOf]
  · have gd := decN_len nn (by have := HNN.out; omega)
    rw [← str_size] at gd
    have s3 := fun W => str_add (P := Tryd.prog) ⟨#[94]⟩ (str (decN nn)) (by rw [show (⟨#[94]⟩ : ByteArray).size = 1 from rfl]; omega) W
    have s4 := fun W => str_add (P := Tryd.prog) ⟨#[94, 61]⟩ (str (decN nn)) (by rw [show (⟨#[94, 61]⟩ : ByteArray).size = 2 from rfl]; omega) W
    have hkk := HK_9.out
    have kk0 := hkk.cell 2; have lkk := hkk.lt
    simp only [List.getElem?_toArray, List.getElem?_cons_zero, List.getElem?_cons_succ] at kk0
    clear hkk
    obtain ⟨sd, hsd⟩ : ∃ sd, str (decN nn) = sd := ⟨_, rfl⟩
    have HDG := Lib.hid (fun W => (by have h := ldigits_any nn (by have := HNN.out; omega) W; rw [hsd] at h; exact h : Calls Tryd.prog 21 #[.int .i64 (nn : Int)] W (StrRet sd W)))
    rw [hsd] at gd
    simp only [hsd] at s3 s4
    have HSD := Lib.hid hsd
    clear hsd
    have nzz := HN_9.out
    have n0 := nzz.cell 0
    have n1 := nzz.cell 1
    have n2 := nzz.cell 2
    have n3 := nzz.cell 3
    have n4 := nzz.cell 4
    have n5 := nzz.cell 5
    have n6 := nzz.cell 6
    have n7 := nzz.cell 7
    have n8 := nzz.cell 8
    have n9 := nzz.cell 9
    have n10 := nzz.cell 10
    have n11 := nzz.cell 11
    have ln := nzz.lt
    simp only [List.getElem?_toArray, List.getElem?_cons_zero, List.getElem?_cons_succ] at n0 n1 n2 n3 n4 n5 n6 n7 n8 n9 n10 n11
    clear nzz
    have HKD := Lib.hid ((Blk.new w9 27 #[.int .i64 kdN, .string (str flN), .string (str txN), .int .i64 xnN, .bool laN, .bool lbN, .string (str lcN), .bool raN, .bool rbN, .string (str rcN), .slice oaN onN ocN, .slice kaN knN kcN]).alloc (.cells #[.int .i64 15, .string ⟨#[]⟩, .string ⟨#[]⟩, .int .i64 (nn : Int), .bool false, .bool false, .string ⟨#[]⟩, .bool false, .bool false, .string ⟨#[]⟩, .slice none 0 0, .slice (some ⟨w9.heap.size, 0, none⟩) 1 1] 27))
    have HAR := Lib.hid (show Blk ((w9.alloc (.cells #[.int .i64 kdN, .string (str flN), .string (str txN), .int .i64 xnN, .bool laN, .bool lbN, .string (str lcN), .bool raN, .bool rbN, .string (str rcN), .slice oaN onN ocN, .slice kaN knN kcN] 27)).alloc (.cells #[.int .i64 15, .string ⟨#[]⟩, .string ⟨#[]⟩, .int .i64 (nn : Int), .bool false, .bool false, .string ⟨#[]⟩, .bool false, .bool false, .string ⟨#[]⟩, .slice none 0 0, .slice (some ⟨w9.heap.size, 0, none⟩) 1 1] 27)) (w9.heap.size + 1) 27 #[.int .i64 15, .string ⟨#[]⟩, .string ⟨#[]⟩, .int .i64 (nn : Int), .bool false, .bool false, .string ⟨#[]⟩, .bool false, .bool false, .string ⟨#[]⟩, .slice none 0 0, .slice (some ⟨w9.heap.size, 0, none⟩) 1 1] from by have h := Blk.new (w9.alloc (.cells #[.int .i64 kdN, .string (str flN), .string (str txN), .int .i64 xnN, .bool laN, .bool lbN, .string (str lcN), .bool raN, .bool rbN, .string (str rcN), .slice oaN onN ocN, .slice kaN knN kcN] 27)) 27 #[.int .i64 15, .string ⟨#[]⟩, .string ⟨#[]⟩, .int .i64 (nn : Int), .bool false, .bool false, .string ⟨#[]⟩, .bool false, .bool false, .string ⟨#[]⟩, .slice none 0 0, .slice (some ⟨w9.heap.size, 0, none⟩) 1 1]; rw [World.size_alloc] at h; exact h)
    have hb : Below w9.heap.size w9 ((w9.alloc (.cells #[.int .i64 kdN, .string (str flN), .string (str txN), .int .i64 xnN, .bool laN, .bool lbN, .string (str lcN), .bool raN, .bool rbN, .string (str rcN), .slice oaN onN ocN, .slice kaN knN kcN] 27)).alloc (.cells #[.int .i64 15, .string ⟨#[]⟩, .string ⟨#[]⟩, .int .i64 (nn : Int), .bool false, .bool false, .string ⟨#[]⟩, .bool false, .bool false, .string ⟨#[]⟩, .slice none 0 0, .slice (some ⟨w9.heap.size, 0, none⟩) 1 1] 27)) := ((Below.refl _ _).alloc (Nat.le_refl _) _).alloc (by rw [World.size_alloc]; exact Nat.le_succ _) _
    go_wp2_with fail
    clear n0 n1 n2 n3 n4 n5 n6 n7 n8 n9 n10 n11 ln
    have HQ := Lib.hid hb
    clear hb
    have HD := Lib.hid HKD.out; have HA := Lib.hid HAR.out
    clear HKD HAR
    generalize ((w9.alloc (.cells #[.int .i64 kdN, .string (str flN), .string (str txN), .int .i64 xnN, .bool laN, .bool lbN, .string (str lcN), .bool raN, .bool rbN, .string (str rcN), .slice oaN onN ocN, .slice kaN knN kcN] 27)).alloc (.cells #[.int .i64 15, .string ⟨#[]⟩, .string ⟨#[]⟩, .int .i64 (nn : Int), .bool false, .bool false, .string ⟨#[]⟩, .bool false, .bool false, .string ⟨#[]⟩, .slice none 0 0, .slice (some ⟨w9.heap.size, 0, none⟩) 1 1] 27)) = w10 at *
    have HCALL := Lib.hid (HDG.out w10)
    skip
    refine HCALL.out.mono ?_
    rintro e w11 ⟨rfl, hb⟩
    clear HCALL
    have HQ2 := Lib.hid (HQ.out.trans (hb.mono HQ.out.size)); have HD2 := Lib.hid (HD.out.belowW hb); have HA2 := Lib.hid (HA.out.belowW hb)
    clear HQ HD HA hb
    have HQ := HQ2; have HD := HD2; have HA := HA2
    clear HQ2 HD2 HA2
    have HCALL := Lib.hid (HDG.out w11)
    go_wp2_with fail
    refine HCALL.out.mono ?_
    rintro e w12 ⟨rfl, hb⟩
    clear HCALL
    have HQ2 := Lib.hid (HQ.out.trans (hb.mono HQ.out.size)); have HD2 := Lib.hid (HD.out.belowW hb); have HA2 := Lib.hid (HA.out.belowW hb)
    clear HQ HD HA hb
    have HQ := HQ2; have HD := HD2; have HA := HA2
    clear HQ2 HD2 HA2
    go_upto_region 25 with (fail)
    have hcc1 := HC_9.out.belowW HQ.out
    have hcc2 := HL_9.out.belowW HQ.out
    have cc0 := hcc1.cell 0; have cc3 := hcc1.cell 3; have ccl := hcc1.lt; have dd0 := hcc2.cell 2; have ddl := hcc2.lt
    simp only [List.getElem?_toArray, List.getElem?_cons_zero, List.getElem?_cons_succ] at cc0 cc3 dd0
    clear kk0 lkk hcc1 hcc2
    go_cut [111] (fun bv wx => bv = .bool (decide (levK kdC xnC < 5)) ∧ Below w12.heap.size w12 wx)
    case first =>
      have HS := HSH6.out
      have hkk := HKCC.out
      rcases HS with ⟨h8, hlv⟩ | ⟨rfl, h0, hlv⟩ | ⟨rfl, h0, hlv⟩ | ⟨h1, h2, hlv⟩ | ⟨rfl, hlv⟩ | ⟨h1, hlv⟩
      · have x2 : ¬ 8 < kdC := by omega
        have x3 : kdC < 14 := by omega
        have x4 : decide ((8 : Int) < kdC) = false := decide_eq_false x2
        have x5 : decide (kdC < (14 : Int)) = true := decide_eq_true x3
        have HR := Lib.hid (show (Value.bool false) = .bool (decide (levK kdC xnC < 5)) from by rw [decide_eq_false (by omega)])
        clear hlv
        go_quiet (fail)
        go_wp2
        go_meet
        exact ⟨by first | exact HR.out | (rw [h0d]; exact HR.out), below_drewN (Below.refl _ _) nq⟩
      · have h0d : decide (0 < xnC) = true := decide_eq_true (by omega)
        have HR := Lib.hid (show (Value.bool false) = .bool (decide (levK 9 xnC < 5)) from by rw [decide_eq_false (by omega)])
        clear hlv
        go_quiet (fail)
        go_wp2
        go_meet
        exact ⟨by first | exact HR.out | (rw [h0d]; exact HR.out), below_drewN (Below.refl _ _) nq⟩
      · have h0d : decide (0 < xnC) = false := decide_eq_false (by omega)
        have HR := Lib.hid (show (Value.bool true) = .bool (decide (levK 9 xnC < 5)) from by rw [decide_eq_true (by omega)])
        clear hlv
        go_quiet (fail)
        go_wp2
        go_meet
        exact ⟨by first | exact HR.out | (rw [h0d]; exact HR.out), below_drewN (Below.refl _ _) nq⟩
      · have x2 : 8 < kdC := by omega
        have x3 : kdC < 14 := by omega
        have x4 : decide ((8 : Int) < kdC) = true := decide_eq_true x2
        have x5 : decide (kdC < (14 : Int)) = true := decide_eq_true x3
        have x6 : (kdC == 9) = false := by rw [beq_eq_false_iff_ne]; omega
        have HR := Lib.hid (show (Value.bool true) = .bool (decide (levK kdC xnC < 5)) from by rw [decide_eq_true (by omega)])
        clear hlv
        go_quiet (fail)
        go_wp2
        go_meet
        exact ⟨by first | exact HR.out | (rw [h0d]; exact HR.out), below_drewN (Below.refl _ _) nq⟩
      · skip
        have HR := Lib.hid (show (Value.bool true) = .bool (decide (levK 13 xnC < 5)) from by rw [decide_eq_true (by omega)])
        clear hlv
        go_quiet (fail)
        go_wp2
        go_meet
        exact ⟨by first | exact HR.out | (rw [h0d]; exact HR.out), below_drewN (Below.refl _ _) nq⟩
      · have x3 : ¬ kdC < 14 := by omega
        have x5 : decide (kdC < (14 : Int)) = false := decide_eq_false x3
        have HR := Lib.hid (show (Value.bool false) = .bool (decide (levK kdC xnC < 5)) from by rw [decide_eq_false (by omega)])
        clear hlv
        go_quiet (fail)
        go_wp2
        go_meet
        exact ⟨by first | exact HR.out | (rw [h0d]; exact HR.out), below_drewN (Below.refl _ _) nq⟩
    case rest =>
    obtain ⟨rfl, hb⟩ := hcut
    generalize wc = w13 at *
    have HQ2 := Lib.hid (HQ.out.trans (hb.mono HQ.out.size)); have HD2 := Lib.hid (HD.out.belowW hb); have HA2 := Lib.hid (HA.out.belowW hb)
    clear HQ HD HA hb cc0 cc3 ccl dd0 ddl
    have HQ := HQ2; have HD := HD2; have HA := HA2
    clear HQ2 HD2 HA2
    by_cases hbr : levK kdC xnC < 5
    · have hdb : decide (levK kdC xnC < 5) = true := decide_eq_true hbr
      rw [hdb]
      have HLB := Lib.hid (show decide (levN c < barK 15 0) = true from by rw [HLV.out]; exact hdb)
      clear hdb hbr
      have HXG := Lib.hid (wrapT_good (K := 15) (N := (nn : Int)) (t := t) (by have := HNN.out; omega) HG.out)
      have HXC := Lib.hid (wrapT_canon (K := 15) (N := (nn : Int)) (by omega) HCC.out)
      have HXB := Lib.hid (show bkN (wrapT 15 (nn : Int) t) ≤ 2000000 from by rw [wrapT_bk]; have := HBK.out; omega)
      have HXN := Lib.hid (show nestN (wrapT 15 (nn : Int) c) = d + 2 from by rw [wrapT_nest (by omega), if_pos (of_decide_eq_true HLB.out), HND.out])
      have HXF := Lib.hid (show str (formN (wrapT 15 (nn : Int) c)) = ⟨#[]⟩ ++ (⟨#[40]⟩ ++ fs ++ ⟨#[41]⟩) ++ (⟨#[94, 61]⟩ ++ sd) from by
        rw [wrapT_form (by omega), HLB.out, ← HFS.out, ← HSD.out]
        refine ba_ext ?_
        rw [str_data, ba_append, ba_append]
        rw [ba_append, ba_append]
        rw [ba_append]
        unfold aroundF brF
        simp [str_data])
      have g1 : (⟨#[]⟩ : ByteArray).size = 0 := rfl
      have g2 : ((⟨#[40]⟩ ++ fs ++ ⟨#[41]⟩) : ByteArray).size ≤ 10000002 := by rw [ba_append_size, ba_append_size, show (⟨#[40]⟩ : ByteArray).size = 1 from rfl, show (⟨#[41]⟩ : ByteArray).size = 1 from rfl]; omega
      have g3 : ((⟨#[94, 61]⟩ ++ sd) : ByteArray).size ≤ 30 := by rw [ba_append_size, show (⟨#[94, 61]⟩ : ByteArray).size = 2 from rfl]; omega
      have hq1 : (⟨#[]⟩ : ByteArray).size + ((⟨#[40]⟩ ++ fs ++ ⟨#[41]⟩) : ByteArray).size ≤ 20000000 := by omega
      have hq2 : (⟨#[]⟩ ++ (⟨#[40]⟩ ++ fs ++ ⟨#[41]⟩) : ByteArray).size + ((⟨#[94, 61]⟩ ++ sd) : ByteArray).size ≤ 30000000 := by rw [ba_append_size]; omega
      clear g1 g2 g3
      have s1 := fun W => str_add (P := Tryd.prog) ⟨#[]⟩ (⟨#[40]⟩ ++ fs ++ ⟨#[41]⟩) (by omega) W
      have s2 := fun W => str_add (P := Tryd.prog) (⟨#[]⟩ ++ (⟨#[40]⟩ ++ fs ++ ⟨#[41]⟩)) (⟨#[94, 61]⟩ ++ sd) (by omega) W
      have s5 := fun W => str_add (P := Tryd.prog) ⟨#[40]⟩ fs (by rw [show (⟨#[40]⟩ : ByteArray).size = 1 from rfl]; omega) W
      have s6 := fun W => str_add (P := Tryd.prog) (⟨#[40]⟩ ++ fs) ⟨#[41]⟩ (by rw [ba_append_size, show (⟨#[40]⟩ : ByteArray).size = 1 from rfl, show (⟨#[41]⟩ : ByteArray).size = 1 from rfl]; omega) W
      clear hq1 hq2
      have HNX := Lib.hid (fun (W : World) (F : Nat → Prop) (hD : Blk W w9.heap.size 27 #[.int .i64 kdN, .string (str flN), .string (str txN), .int .i64 xnN, .bool laN, .bool lbN, .string (str lcN), .bool raN, .bool rbN, .string (str rcN), .slice oaN onN ocN, .slice kaN knN kcN]) (hF : F w9.heap.size) (hx : NdR W F ⟨kdN, flN, txN, xnN, ⟨laN, lbN, lcN⟩, ⟨raN, rbN, rcN⟩, ⟨oaN, onN, ocN⟩, ⟨kaN, knN, kcN⟩⟩ t) => (show NdR W F ⟨15, [], [], (nn : Int), bd0, bd0, ⟨none, 0, 0⟩, ⟨some ⟨w9.heap.size, 0, none⟩, 1, 1⟩⟩ (wrapT 15 (nn : Int) t) from by
        unfold wrapT
        refine .mk (RdF.nil _ _ _) (RdF.kid (x := ⟨kdN, flN, txN, xnN, ⟨laN, lbN, lcN⟩, ⟨raN, rbN, rcN⟩, ⟨oaN, onN, ocN⟩, ⟨kaN, knN, kcN⟩⟩) hD hF) rfl fun i u v hu hv => ?_
        match i, hu, hv with
        | 0, hu, hv => simp at hu hv; subst hu hv; exact hx
        | i + 1, hu, hv => simp at hu))
      have HXX := Lib.hid (HNX.out w13 (fun _ => True) HD.out trivial ((HX_9.out.belowW HQ.out).mono fun _ _ => trivial))
      have HCALL := Lib.hid (pprint_as HXG.out HXC.out HXF.out HXX.out HXB.out (HE_9.out.below HQ.out))
      unfold NV.val at HCALL
      simp only [bd0] at HCALL
      rw [show str [] = ⟨#[]⟩ from rfl] at HCALL
      have azz := HA.out
      have a0 := azz.cell 0
      have a1 := azz.cell 1
      have a2 := azz.cell 2
      have a3 := azz.cell 3
      have a4 := azz.cell 4
      have a5 := azz.cell 5
      have a6 := azz.cell 6
      have a7 := azz.cell 7
      have a8 := azz.cell 8
      have a9 := azz.cell 9
      have a10 := azz.cell 10
      have a11 := azz.cell 11
      have la := azz.lt
      simp only [List.getElem?_toArray, List.getElem?_cons_zero, List.getElem?_cons_succ] at a0 a1 a2 a3 a4 a5 a6 a7 a8 a9 a10 a11
      clear azz
      go_wp2_with fail
      refine HCALL.out.mono ?_
      rintro e w14 ⟨hb, rfl⟩
      clear HCALL HXX a0 a1 a2 a3 a4 a5 a6 a7 a8 a9 a10 a11 la
      have HQ2 := Lib.hid (HQ.out.trans (hb.mono HQ.out.size)); have HD2 := Lib.hid (HD.out.belowW hb); have HA2 := Lib.hid (HA.out.belowW hb)
      clear HQ HD HA hb
      have HQ := HQ2; have HD := HD2; have HA := HA2
      clear HQ2 HD2 HA2
      have HXX := Lib.hid (HNX.out w14 (fun _ => True) HD.out trivial ((HX_9.out.belowW HQ.out).mono fun _ _ => trivial))
      have HCALL := Lib.hid (pnest_as HXG.out HXC.out HXN.out HXX.out HXB.out (HE_9.out.below HQ.out))
      unfold NV.val at HCALL
      simp only [bd0] at HCALL
      rw [show str [] = ⟨#[]⟩ from rfl] at HCALL
      have azz := HA.out
      have a0 := azz.cell 0
      have a1 := azz.cell 1
      have a2 := azz.cell 2
      have a3 := azz.cell 3
      have a4 := azz.cell 4
      have a5 := azz.cell 5
      have a6 := azz.cell 6
      have a7 := azz.cell 7
      have a8 := azz.cell 8
      have a9 := azz.cell 9
      have a10 := azz.cell 10
      have a11 := azz.cell 11
      have la := azz.lt
      simp only [List.getElem?_toArray, List.getElem?_cons_zero, List.getElem?_cons_succ] at a0 a1 a2 a3 a4 a5 a6 a7 a8 a9 a10 a11
      clear azz
      go_wp2_with fail
      refine HCALL.out.mono ?_
      rintro e w15 ⟨hb, rfl⟩
      clear HCALL HXX a0 a1 a2 a3 a4 a5 a6 a7 a8 a9 a10 a11 la
      have HQ2 := Lib.hid (HQ.out.trans (hb.mono HQ.out.size)); have HD2 := Lib.hid (HD.out.belowW hb); have HA2 := Lib.hid (HA.out.belowW hb)
      clear HQ HD HA hb
      have HQ := HQ2; have HD := HD2; have HA := HA2
      clear HQ2 HD2 HA2
      go_wp2
      go_roundw
      case rel => exact ⟨3, by decide, by first | rfl | go_num, HREL.out.trans (HQ.out.mono HREL.out.size)⟩
      case measure => simp [intOf]
    · have hdb : decide (levK kdC xnC < 5) = false := decide_eq_false hbr
      rw [hdb]
      have HLB := Lib.hid (show decide (levN c < barK 15 0) = false from by rw [HLV.out]; exact hdb)
      clear hdb hbr
      have HXG := Lib.hid (wrapT_good (K := 15) (N := (nn : Int)) (t := t) (by have := HNN.out; omega) HG.out)
      have HXC := Lib.hid (wrapT_canon (K := 15) (N := (nn : Int)) (by omega) HCC.out)
      have HXB := Lib.hid (show bkN (wrapT 15 (nn : Int) t) ≤ 2000000 from by rw [wrapT_bk]; have := HBK.out; omega)
      have HXN := Lib.hid (show nestN (wrapT 15 (nn : Int) c) = d + 1 from by rw [wrapT_nest (by omega), if_neg (of_decide_eq_false HLB.out), HND.out])
      have HXF := Lib.hid (show str (formN (wrapT 15 (nn : Int) c)) = ⟨#[]⟩ ++ fs ++ (⟨#[94, 61]⟩ ++ sd) from by
        rw [wrapT_form (by omega), HLB.out, ← HFS.out, ← HSD.out]
        refine ba_ext ?_
        rw [str_data, ba_append, ba_append]
        skip
        rw [ba_append]
        unfold aroundF brF
        simp [str_data])
      have g1 : (⟨#[]⟩ : ByteArray).size = 0 := rfl
      have g2 : (fs : ByteArray).size ≤ 10000002 := by omega
      have g3 : ((⟨#[94, 61]⟩ ++ sd) : ByteArray).size ≤ 30 := by rw [ba_append_size, show (⟨#[94, 61]⟩ : ByteArray).size = 2 from rfl]; omega
      have hq1 : (⟨#[]⟩ : ByteArray).size + (fs : ByteArray).size ≤ 20000000 := by omega
      have hq2 : (⟨#[]⟩ ++ fs : ByteArray).size + ((⟨#[94, 61]⟩ ++ sd) : ByteArray).size ≤ 30000000 := by rw [ba_append_size]; omega
      clear g1 g2 g3
      have s1 := fun W => str_add (P := Tryd.prog) ⟨#[]⟩ fs (by omega) W
      have s2 := fun W => str_add (P := Tryd.prog) (⟨#[]⟩ ++ fs) (⟨#[94, 61]⟩ ++ sd) (by omega) W
      have s5 := fun W => str_add (P := Tryd.prog) ⟨#[40]⟩ fs (by rw [show (⟨#[40]⟩ : ByteArray).size = 1 from rfl]; omega) W
      have s6 := fun W => str_add (P := Tryd.prog) (⟨#[40]⟩ ++ fs) ⟨#[41]⟩ (by rw [ba_append_size, show (⟨#[40]⟩ : ByteArray).size = 1 from rfl, show (⟨#[41]⟩ : ByteArray).size = 1 from rfl]; omega) W
      clear hq1 hq2
      have HNX := Lib.hid (fun (W : World) (F : Nat → Prop) (hD : Blk W w9.heap.size 27 #[.int .i64 kdN, .string (str flN), .string (str txN), .int .i64 xnN, .bool laN, .bool lbN, .string (str lcN), .bool raN, .bool rbN, .string (str rcN), .slice oaN onN ocN, .slice kaN knN kcN]) (hF : F w9.heap.size) (hx : NdR W F ⟨kdN, flN, txN, xnN, ⟨laN, lbN, lcN⟩, ⟨raN, rbN, rcN⟩, ⟨oaN, onN, ocN⟩, ⟨kaN, knN, kcN⟩⟩ t) => (show NdR W F ⟨15, [], [], (nn : Int), bd0, bd0, ⟨none, 0, 0⟩, ⟨some ⟨w9.heap.size, 0, none⟩, 1, 1⟩⟩ (wrapT 15 (nn : Int) t) from by
        unfold wrapT
        refine .mk (RdF.nil _ _ _) (RdF.kid (x := ⟨kdN, flN, txN, xnN, ⟨laN, lbN, lcN⟩, ⟨raN, rbN, rcN⟩, ⟨oaN, onN, ocN⟩, ⟨kaN, knN, kcN⟩⟩) hD hF) rfl fun i u v hu hv => ?_
        match i, hu, hv with
        | 0, hu, hv => simp at hu hv; subst hu hv; exact hx
        | i + 1, hu, hv => simp at hu))
      have HXX := Lib.hid (HNX.out w13 (fun _ => True) HD.out trivial ((HX_9.out.belowW HQ.out).mono fun _ _ => trivial))
      have HCALL := Lib.hid (pprint_as HXG.out HXC.out HXF.out HXX.out HXB.out (HE_9.out.below HQ.out))
      unfold NV.val at HCALL
      simp only [bd0] at HCALL
      rw [show str [] = ⟨#[]⟩ from rfl] at HCALL
      have azz := HA.out
      have a0 := azz.cell 0
      have a1 := azz.cell 1
      have a2 := azz.cell 2
      have a3 := azz.cell 3
      have a4 := azz.cell 4
      have a5 := azz.cell 5
      have a6 := azz.cell 6
      have a7 := azz.cell 7
      have a8 := azz.cell 8
      have a9 := azz.cell 9
      have a10 := azz.cell 10
      have a11 := azz.cell 11
      have la := azz.lt
      simp only [List.getElem?_toArray, List.getElem?_cons_zero, List.getElem?_cons_succ] at a0 a1 a2 a3 a4 a5 a6 a7 a8 a9 a10 a11
      clear azz
      go_wp2_with fail
      refine HCALL.out.mono ?_
      rintro e w14 ⟨hb, rfl⟩
      clear HCALL HXX a0 a1 a2 a3 a4 a5 a6 a7 a8 a9 a10 a11 la
      have HQ2 := Lib.hid (HQ.out.trans (hb.mono HQ.out.size)); have HD2 := Lib.hid (HD.out.belowW hb); have HA2 := Lib.hid (HA.out.belowW hb)
      clear HQ HD HA hb
      have HQ := HQ2; have HD := HD2; have HA := HA2
      clear HQ2 HD2 HA2
      have HXX := Lib.hid (HNX.out w14 (fun _ => True) HD.out trivial ((HX_9.out.belowW HQ.out).mono fun _ _ => trivial))
      have HCALL := Lib.hid (pnest_as HXG.out HXC.out HXN.out HXX.out HXB.out (HE_9.out.below HQ.out))
      unfold NV.val at HCALL
      simp only [bd0] at HCALL
      rw [show str [] = ⟨#[]⟩ from rfl] at HCALL
      have azz := HA.out
      have a0 := azz.cell 0
      have a1 := azz.cell 1
      have a2 := azz.cell 2
      have a3 := azz.cell 3
      have a4 := azz.cell 4
      have a5 := azz.cell 5
      have a6 := azz.cell 6
      have a7 := azz.cell 7
      have a8 := azz.cell 8
      have a9 := azz.cell 9
      have a10 := azz.cell 10
      have a11 := azz.cell 11
      have la := azz.lt
      simp only [List.getElem?_toArray, List.getElem?_cons_zero, List.getElem?_cons_succ] at a0 a1 a2 a3 a4 a5 a6 a7 a8 a9 a10 a11
      clear azz
      go_wp2_with fail
      refine HCALL.out.mono ?_
      rintro e w15 ⟨hb, rfl⟩
      clear HCALL HXX a0 a1 a2 a3 a4 a5 a6 a7 a8 a9 a10 a11 la
      have HQ2 := Lib.hid (HQ.out.trans (hb.mono HQ.out.size)); have HD2 := Lib.hid (HD.out.belowW hb); have HA2 := Lib.hid (HA.out.belowW hb)
      clear HQ HD HA hb
      have HQ := HQ2; have HD := HD2; have HA := HA2
      clear HQ2 HD2 HA2
      go_wp2
      go_roundw
      case rel => exact ⟨3, by decide, by first | rfl | go_num, HREL.out.trans (HQ.out.mono HREL.out.size)⟩
      case measure => simp [intOf]
  · go_wp2
    go_ret
    exact ⟨rfl, HB_9.out⟩
end Go.Proofs.YthcldpminmhgkaaDoor
end
