/- Merged for a claim by shake.py: Jbd -/
import Derived.Test.YthcldpminmhgkaaDoorKz29
section
namespace Go.Proofs.YthcldpminmhgkaaDoor
open Go.RowKit
set_option maxRecDepth 100000
set_option maxHeartbeats 4000000
set_option linter.unusedSimpArgs false
set_option linter.unusedVariables false
theorem around_three {k : Int} (hk : k = 10 ∨ k = 11 ∨ k = 12) {t : Nd} (hg : goodN t = true) : goodN (.mk k [] [] 0 bd0 bd0 [] [t]) = true ∧ canonN (.mk k [] [] 0 bd0 bd0 [] [t]) = canonN t ∧ sizeN (.mk k [] [] 0 bd0 bd0 [] [t]) = sizeN t + 1 ∧ bkN (.mk k [] [] 0 bd0 bd0 [] [t]) = bkN t + 1 := by
  refine ⟨?_, ?_, ?_, ?_⟩
  · rw [goodN, goodNs, goodNs, hg]
    rcases hk with rfl | rfl | rfl <;> simp [ownN, bd0, Bd.nil]
  · rw [canonN, canonNs, canonNs, canTop, if_pos (by rcases hk with rfl | rfl | rfl <;> simp)]
  · rw [sizeN, sizeNs, sizeNs]; omega
  · rw [bkN, bkNs, bkNs]; simp [bd0]; omega
theorem around_list {t : Nd} (hg : goodN t = true) : goodN (.mk 9 [] [] 0 bd0 bd0 [0] [t]) = true ∧ canonN (.mk 9 [] [] 0 bd0 bd0 [0] [t]) = canonN t ∧ sizeN (.mk 9 [] [] 0 bd0 bd0 [0] [t]) = sizeN t + 1 ∧ bkN (.mk 9 [] [] 0 bd0 bd0 [0] [t]) = bkN t + 2 := by
  refine ⟨?_, ?_, ?_, ?_⟩
  · rw [goodN, goodNs, goodNs, hg]
    simp [ownN, bd0, Bd.nil, numB, maxNum, occB]
  · rw [canonN, canonNs, canonNs, canTop, if_pos (by simp)]
  · rw [sizeN, sizeNs, sizeNs]; omega
  · rw [bkN, bkNs, bkNs]; simp [bd0]; omega
def ArR (t : Nd) (w wx : World) : Prop := ∃ (y : NV) (ar : Nd), Below w.heap.size w wx ∧ Blk wx (w.heap.size + 1) 27 y.cells.toArray ∧ NdR wx (fun b => b < wx.heap.size) y ar ∧ goodN ar = true ∧ canonN ar = canonN t ∧ sizeN ar = sizeN t + 1 ∧ bkN ar ≤ bkN t + 2
theorem nd_one {w : World} {F : Nat → Prop} {g : Nat} {kind : Int} {so : Sl} {occ : List Int} {x : NV} {t : Nd} (h : Blk w g 27 x.cells.toArray) (hF : F g) (ho : RdF folS w F so occ) (hx : NdR w F x t) :
    NdR w F ⟨kind, [], [], 0, bd0, bd0, so, ⟨some ⟨g, 0, none⟩, 1, 1⟩⟩ (.mk kind [] [] 0 bd0 bd0 occ [t]) := by
  refine .mk ho (RdF.kid h hF) rfl fun i u v hu hv => ?_
  match i, hu, hv with
  | 0, hu, hv => simp at hu hv; subst hu hv; exact hx
  | i + 1, hu, hv => simp at hu
theorem once_walk (t : Nd) (kind : Int) (w : World) (ea : List Addr) (x : NV) (hx : NdR w (fun b => b < w.heap.size) x t) (hbk : bkN t ≤ 1048576) (hkd : -9223372036854775808 ≤ kind ∧ kind ≤ 9223372036854775807) (hE : LawEnv w ea) :
    Calls Tryd.prog 4 #[x.val, .int .i64 kind] w fun e w' => e = .returned (.bool true) ∧ Below w.heap.size w w' := by
  obtain ⟨kdN, flN, txN, xnN, ⟨laN, lbN, lcN⟩, ⟨raN, rbN, rcN⟩, ⟨oaN, onN, ocN⟩, ⟨kaN, knN, kcN⟩⟩ := x
  have HB_0 := Lib.hid ((Below.refl w.heap.size w).alloc (Nat.le_refl _) (.cells #[.int .i64 kdN, .string (str flN), .string (str txN), .int .i64 xnN, .bool laN, .bool lbN, .string (str lcN), .bool raN, .bool rbN, .string (str rcN), .slice oaN onN ocN, .slice kaN knN kcN] 27))
  have HE_0 := Lib.hid (hE.below HB_0.out)
  have HN_0 := Lib.hid (Blk.new w 27 #[.int .i64 kdN, .string (str flN), .string (str txN), .int .i64 xnN, .bool laN, .bool lbN, .string (str lcN), .bool raN, .bool rbN, .string (str rcN), .slice oaN onN ocN, .slice kaN knN kcN])
  have HX_0 := Lib.hid (hx.belowW HB_0.out)
  have HBK := Lib.hid hbk; have HKD := Lib.hid hkd
  clear hx hE hbk hkd
  unfold NV.val
  simp only []
  go_enter Tryd.func4, Tryd.ntmps4
  go_wp2_with fail
  generalize w.alloc (.cells #[.int .i64 kdN, .string (str flN), .string (str txN), .int .i64 xnN, .bool laN, .bool lbN, .string (str lcN), .bool raN, .bool rbN, .string (str rcN), .slice oaN onN ocN, .slice kaN knN kcN] 27) = w0 at *
  have HCALL := Lib.hid (fixed_any w0 ea HE_0.out)
  skip
  refine HCALL.out.mono ?_
  rintro e w1 ⟨rfl, hb⟩
  clear HCALL
  have HB_1 := Lib.hid (HB_0.out.trans (hb.mono HB_0.out.size))
  have HE_1 := Lib.hid (HE_0.out.below hb)
  have HN_1 := Lib.hid (HN_0.out.belowW hb)
  have HX_1 := Lib.hid (HX_0.out.belowW hb)
  clear HB_0 HE_0 HN_0 HX_0
  clear hb
  have nzz := HN_1.out
  have n0 := nzz.cell 0
  have n1 := nzz.cell 1
  have n2 := nzz.cell 2
  have n3 := nzz.cell 3
  have n4 := nzz.cell 4
  have n5 := nzz.cell 5
  have n6 := nzz.cell 6
  have n7 := nzz.cell 7
  have n8 := nzz.cell 8
  have n9 := nzz.cell 9
  have n10 := nzz.cell 10
  have n11 := nzz.cell 11
  have ln := nzz.lt
  simp only [List.getElem?_toArray, List.getElem?_cons_zero, List.getElem?_cons_succ] at n0 n1 n2 n3 n4 n5 n6 n7 n8 n9 n10 n11
  clear nzz
  have HCALL := Lib.hid (few_any t w1 _ _ 4000 HX_1.out (Nat.le_trans HBK.out (by decide)) (by decide))
  unfold NV.val at HCALL
  simp only [] at HCALL
  go_wp2_with fail
  refine HCALL.out.mono ?_
  rintro e w2 ⟨rfl, hb⟩
  clear HCALL
  clear n0 n1 n2 n3 n4 n5 n6 n7 n8 n9 n10 n11 ln
  have HB_2 := Lib.hid (HB_1.out.trans (hb.mono HB_1.out.size))
  have HE_2 := Lib.hid (HE_1.out.below hb)
  have HN_2 := Lib.hid (HN_1.out.belowW hb)
  have HX_2 := Lib.hid (HX_1.out.belowW hb)
  clear HB_1 HE_1 HN_1 HX_1
  clear hb
  by_cases hfew : wtN t ≤ 4000
  case neg =>
    have hd : decide (wtN t ≤ 4000) = false := decide_eq_false hfew
    go_wp2
    go_ret
    exact ⟨rfl, HB_2.out⟩
  have hd : decide (wtN t ≤ 4000) = true := decide_eq_true hfew
  clear hfew
  have nzz := HN_2.out
  have n0 := nzz.cell 0
  have n1 := nzz.cell 1
  have n2 := nzz.cell 2
  have n3 := nzz.cell 3
  have n4 := nzz.cell 4
  have n5 := nzz.cell 5
  have n6 := nzz.cell 6
  have n7 := nzz.cell 7
  have n8 := nzz.cell 8
  have n9 := nzz.cell 9
  have n10 := nzz.cell 10
  have n11 := nzz.cell 11
  have ln := nzz.lt
  simp only [List.getElem?_toArray, List.getElem?_cons_zero, List.getElem?_cons_succ] at n0 n1 n2 n3 n4 n5 n6 n7 n8 n9 n10 n11
  clear nzz
  have HCALL := Lib.hid (rcheck15_any t w2 _ _ HX_2.out (Nat.le_trans HBK.out (by decide)))
  unfold NV.val at HCALL
  simp only [] at HCALL
  go_wp2_with fail
  refine HCALL.out.mono ?_
  rintro e w3 ⟨rfl, hb⟩
  clear HCALL
  clear n0 n1 n2 n3 n4 n5 n6 n7 n8 n9 n10 n11 ln
  have HB_3 := Lib.hid (HB_2.out.trans (hb.mono HB_2.out.size))
  have HE_3 := Lib.hid (HE_2.out.below hb)
  have HN_3 := Lib.hid (HN_2.out.belowW hb)
  have HX_3 := Lib.hid (HX_2.out.belowW hb)
  clear HB_2 HE_2 HN_2 HX_2
  clear hb
  clear hd
  by_cases hg : goodN t = true
  case neg =>
    rw [chkN_no (by simpa using hg)]
    go_wp2
    go_ret
    exact ⟨rfl, HB_3.out⟩
  rw [chkN_yes hg]
  have HG := Lib.hid hg
  clear hg
  have nzz := HN_3.out
  have n0 := nzz.cell 0
  have n1 := nzz.cell 1
  have n2 := nzz.cell 2
  have n3 := nzz.cell 3
  have n4 := nzz.cell 4
  have n5 := nzz.cell 5
  have n6 := nzz.cell 6
  have n7 := nzz.cell 7
  have n8 := nzz.cell 8
  have n9 := nzz.cell 9
  have n10 := nzz.cell 10
  have n11 := nzz.cell 11
  have ln := nzz.lt
  simp only [List.getElem?_toArray, List.getElem?_cons_zero, List.getElem?_cons_succ] at n0 n1 n2 n3 n4 n5 n6 n7 n8 n9 n10 n11
  clear nzz
  have HCALL := Lib.hid (pcanonw_yes t HG.out w3 _ _ ea 17 HX_3.out (Nat.le_trans HBK.out (by decide)) HE_3.out.pr.asks HE_3.out.node)
  unfold NV.val at HCALL
  simp only [] at HCALL
  go_wp2_with fail
  refine HCALL.out.mono ?_
  rintro e w4 ⟨hb, kdC, xnC, flC, txC, laC, lbC, lcC, raC, rbC, rcC, oaC, onC, ocC, kaC, knC, kcC, rfl, hx⟩
  clear HCALL
  clear n0 n1 n2 n3 n4 n5 n6 n7 n8 n9 n10 n11 ln
  have HB_4 := Lib.hid (HB_3.out.trans (hb.mono HB_3.out.size))
  have HE_4 := Lib.hid (HE_3.out.below hb)
  have HN_4 := Lib.hid (HN_3.out.belowW hb)
  have HX_4 := Lib.hid (HX_3.out.belowW hb)
  clear HB_3 HE_3 HN_3 HX_3
  have HY_4 := Lib.hid hx
  clear hb hx
  have hba := (Below.refl w4.heap.size w4).alloc (Nat.le_refl _) (.cells #[.int .i64 kdC, .string (str flC), .string (str txC), .int .i64 xnC, .bool laC, .bool lbC, .string (str lcC), .bool raC, .bool rbC, .string (str rcC), .slice oaC onC ocC, .slice kaC knC kcC] 27)
  have HBXN := Lib.hid (Blk.new w4 27 #[.int .i64 kdC, .string (str flC), .string (str txC), .int .i64 xnC, .bool laC, .bool lbC, .string (str lcC), .bool raC, .bool rbC, .string (str rcC), .slice oaC onC ocC, .slice kaC knC kcC])
  have HB_5 := Lib.hid (HB_4.out.trans (hba.mono HB_4.out.size))
  have HE_5 := Lib.hid (HE_4.out.below hba)
  have HN_5 := Lib.hid (HN_4.out.belowW hba)
  have HX_5 := Lib.hid (HX_4.out.belowW hba)
  have HY_5 := Lib.hid (HY_4.out.belowW hba)
  clear hba HB_4 HE_4 HN_4 HX_4 HY_4
  have HC_5 := Lib.hid HBXN.out
  clear HBXN
  go_wp2_with fail
  generalize (w4.alloc (.cells #[.int .i64 kdC, .string (str flC), .string (str txC), .int .i64 xnC, .bool laC, .bool lbC, .string (str lcC), .bool raC, .bool rbC, .string (str rcC), .slice oaC onC ocC, .slice kaC knC kcC] 27)) = w5 at *
  have HSF := Lib.hid (fun (W : World) (hW : Below w5.heap.size w5 W) => (show W.cell? ⟨w4.heap.size, 0, none⟩ = some (.int .i64 kdC) ∧ W.cell? ⟨w4.heap.size, 1, none⟩ = some (.string (str flC)) ∧ W.cell? ⟨w4.heap.size, 2, none⟩ = some (.string (str txC)) ∧ W.cell? ⟨w4.heap.size, 3, none⟩ = some (.int .i64 xnC) ∧ W.cell? ⟨w4.heap.size, 4, none⟩ = some (.bool laC) ∧ W.cell? ⟨w4.heap.size, 5, none⟩ = some (.bool lbC) ∧ W.cell? ⟨w4.heap.size, 6, none⟩ = some (.string (str lcC)) ∧ W.cell? ⟨w4.heap.size, 7, none⟩ = some (.bool raC) ∧ W.cell? ⟨w4.heap.size, 8, none⟩ = some (.bool rbC) ∧ W.cell? ⟨w4.heap.size, 9, none⟩ = some (.string (str rcC)) ∧ W.cell? ⟨w4.heap.size, 10, none⟩ = some (.slice oaC onC ocC) ∧ W.cell? ⟨w4.heap.size, 11, none⟩ = some (.slice kaC knC kcC) ∧ W.cell? ⟨w.heap.size, 0, none⟩ = some (.int .i64 kdN) ∧ W.cell? ⟨w.heap.size, 1, none⟩ = some (.string (str flN)) ∧ W.cell? ⟨w.heap.size, 2, none⟩ = some (.string (str txN)) ∧ W.cell? ⟨w.heap.size, 3, none⟩ = some (.int .i64 xnN) ∧ W.cell? ⟨w.heap.size, 4, none⟩ = some (.bool laN) ∧ W.cell? ⟨w.heap.size, 5, none⟩ = some (.bool lbN) ∧ W.cell? ⟨w.heap.size, 6, none⟩ = some (.string (str lcN)) ∧ W.cell? ⟨w.heap.size, 7, none⟩ = some (.bool raN) ∧ W.cell? ⟨w.heap.size, 8, none⟩ = some (.bool rbN) ∧ W.cell? ⟨w.heap.size, 9, none⟩ = some (.string (str rcN)) ∧ W.cell? ⟨w.heap.size, 10, none⟩ = some (.slice oaN onN ocN) ∧ W.cell? ⟨w.heap.size, 11, none⟩ = some (.slice kaN knN kcN) ∧ Below w5.heap.size w5 W from ⟨(HC_5.out.belowW hW).cell 0, (HC_5.out.belowW hW).cell 1, (HC_5.out.belowW hW).cell 2, (HC_5.out.belowW hW).cell 3, (HC_5.out.belowW hW).cell 4, (HC_5.out.belowW hW).cell 5, (HC_5.out.belowW hW).cell 6, (HC_5.out.belowW hW).cell 7, (HC_5.out.belowW hW).cell 8, (HC_5.out.belowW hW).cell 9, (HC_5.out.belowW hW).cell 10, (HC_5.out.belowW hW).cell 11, (HN_5.out.belowW hW).cell 0, (HN_5.out.belowW hW).cell 1, (HN_5.out.belowW hW).cell 2, (HN_5.out.belowW hW).cell 3, (HN_5.out.belowW hW).cell 4, (HN_5.out.belowW hW).cell 5, (HN_5.out.belowW hW).cell 6, (HN_5.out.belowW hW).cell 7, (HN_5.out.belowW hW).cell 8, (HN_5.out.belowW hW).cell 9, (HN_5.out.belowW hW).cell 10, (HN_5.out.belowW hW).cell 11, hW⟩))
  have HAR0 := Lib.hid (fun (W : World) (hW : Below w5.heap.size w5 W) => (show Calls Tryd.prog 17 #[.agg #[.int .i64 kdC, .string (str flC), .string (str txC), .int .i64 xnC, .bool laC, .bool lbC, .string (str lcC), .bool raC, .bool rbC, .string (str rcC), .slice oaC onC ocC, .slice kaC knC kcC]] W fun e w' => e = .returned .nilIface ∧ Below w5.heap.size w5 w' from ((pcheck_any (canonN t) W _ _ ea 17 (HY_5.out.belowW hW) (Nat.le_trans (canon_bk t) (Nat.le_trans HBK.out (by decide))) (HE_5.out.below hW).pr.asks (HE_5.out.below hW).node).mono fun e w' h => by
    obtain ⟨h1, h2⟩ := h.iyes (canon_good t HG.out)
    exact ⟨h2, hW.trans (h1.mono hW.size)⟩)))
  have HAR1 := Lib.hid (fun (W : World) (hW : Below w5.heap.size w5 W) => (show Calls Tryd.prog 18 #[.agg #[.int .i64 kdC, .string (str flC), .string (str txC), .int .i64 xnC, .bool laC, .bool lbC, .string (str lcC), .bool raC, .bool rbC, .string (str rcC), .slice oaC onC ocC, .slice kaC knC kcC]] W fun e w' => e = .returned (.int .i64 (sizeN (canonN t) : Int)) ∧ Below w5.heap.size w5 w' from ((psize_any (canonN t) W _ _ (HY_5.out.belowW hW) (Nat.le_trans (canon_bk t) (Nat.le_trans HBK.out (by decide)))).mono fun e w' h => ⟨h.1, hW.trans (h.2.mono hW.size)⟩)))
  have HAR2 := Lib.hid (fun (W : World) (hW : Below w5.heap.size w5 W) => (show Calls Tryd.prog 18 #[.agg #[.int .i64 kdN, .string (str flN), .string (str txN), .int .i64 xnN, .bool laN, .bool lbN, .string (str lcN), .bool raN, .bool rbN, .string (str rcN), .slice oaN onN ocN, .slice kaN knN kcN]] W fun e w' => e = .returned (.int .i64 (sizeN t : Int)) ∧ Below w5.heap.size w5 w' from ((psize_any t W _ _ (HX_5.out.belowW hW) (Nat.le_trans HBK.out (by decide))).mono fun e w' h => ⟨h.1, hW.trans (h.2.mono hW.size)⟩)))
  have hcs : ¬ sizeN t < sizeN (canonN t) := by have := canon_size t; omega
  generalize sizeN (canonN t) = szc at *
  generalize hsz : sizeN t = szt at *
  have HSZ := Lib.hid hsz
  clear hsz
  go_region_held3 (fun W => W.cell? ⟨w4.heap.size, 0, none⟩ = some (.int .i64 kdC) ∧ W.cell? ⟨w4.heap.size, 1, none⟩ = some (.string (str flC)) ∧ W.cell? ⟨w4.heap.size, 2, none⟩ = some (.string (str txC)) ∧ W.cell? ⟨w4.heap.size, 3, none⟩ = some (.int .i64 xnC) ∧ W.cell? ⟨w4.heap.size, 4, none⟩ = some (.bool laC) ∧ W.cell? ⟨w4.heap.size, 5, none⟩ = some (.bool lbC) ∧ W.cell? ⟨w4.heap.size, 6, none⟩ = some (.string (str lcC)) ∧ W.cell? ⟨w4.heap.size, 7, none⟩ = some (.bool raC) ∧ W.cell? ⟨w4.heap.size, 8, none⟩ = some (.bool rbC) ∧ W.cell? ⟨w4.heap.size, 9, none⟩ = some (.string (str rcC)) ∧ W.cell? ⟨w4.heap.size, 10, none⟩ = some (.slice oaC onC ocC) ∧ W.cell? ⟨w4.heap.size, 11, none⟩ = some (.slice kaC knC kcC) ∧ W.cell? ⟨w.heap.size, 0, none⟩ = some (.int .i64 kdN) ∧ W.cell? ⟨w.heap.size, 1, none⟩ = some (.string (str flN)) ∧ W.cell? ⟨w.heap.size, 2, none⟩ = some (.string (str txN)) ∧ W.cell? ⟨w.heap.size, 3, none⟩ = some (.int .i64 xnN) ∧ W.cell? ⟨w.heap.size, 4, none⟩ = some (.bool laN) ∧ W.cell? ⟨w.heap.size, 5, none⟩ = some (.bool lbN) ∧ W.cell? ⟨w.heap.size, 6, none⟩ = some (.string (str lcN)) ∧ W.cell? ⟨w.heap.size, 7, none⟩ = some (.bool raN) ∧ W.cell? ⟨w.heap.size, 8, none⟩ = some (.bool rbN) ∧ W.cell? ⟨w.heap.size, 9, none⟩ = some (.string (str rcN)) ∧ W.cell? ⟨w.heap.size, 10, none⟩ = some (.slice oaN onN ocN) ∧ W.cell? ⟨w.heap.size, 11, none⟩ = some (.slice kaN knN kcN) ∧ Below w5.heap.size w5 W) (exact HSF.out _ (by repeat (first | assumption | exact Below.refl _ _ | with_reducible refine Below.drew ?_))) (first | ((with_reducible refine (HAR0.out _ ?_).mono ?_); (repeat (first | assumption | exact Below.refl _ _ | with_reducible refine Below.drew ?_)); (rintro e w6 ⟨rfl, hk0⟩)) | ((with_reducible refine (HAR1.out _ ?_).mono ?_); (repeat (first | assumption | exact Below.refl _ _ | with_reducible refine Below.drew ?_)); (rintro e w6 ⟨rfl, hk1⟩)) | ((with_reducible refine (HAR2.out _ ?_).mono ?_); (repeat (first | assumption | exact Below.refl _ _ | with_reducible refine Below.drew ?_)); (rintro e w6 ⟨rfl, hk2⟩)))
  rename_i hfin
  have hb : Below w5.heap.size w5 w6 := hfin.2.2.2.2.2.2.2.2.2.2.2.2.2.2.2.2.2.2.2.2.2.2.2.2
  clear hfin HSF HAR0 HAR1 HAR2
  have HB_6 := Lib.hid (HB_5.out.trans (hb.mono HB_5.out.size))
  have HE_6 := Lib.hid (HE_5.out.below hb)
  have HN_6 := Lib.hid (HN_5.out.belowW hb)
  have HX_6 := Lib.hid (HX_5.out.belowW hb)
  have HY_6 := Lib.hid (HY_5.out.belowW hb)
  have HC_6 := Lib.hid (HC_5.out.belowW hb)
  clear HB_5 HE_5 HN_5 HX_5 HY_5 HC_5
  clear hb
  have nzz := HC_6.out
  have n0 := nzz.cell 0
  have n1 := nzz.cell 1
  have n2 := nzz.cell 2
  have n3 := nzz.cell 3
  have n4 := nzz.cell 4
  have n5 := nzz.cell 5
  have n6 := nzz.cell 6
  have n7 := nzz.cell 7
  have n8 := nzz.cell 8
  have n9 := nzz.cell 9
  have n10 := nzz.cell 10
  have n11 := nzz.cell 11
  have ln := nzz.lt
  simp only [List.getElem?_toArray, List.getElem?_cons_zero, List.getElem?_cons_succ] at n0 n1 n2 n3 n4 n5 n6 n7 n8 n9 n10 n11
  clear nzz
  have HCALL := Lib.hid (pcanon_as (canon_good t HG.out) (canon_canon t) HY_6.out (Nat.le_trans (canon_bk t) (Nat.le_trans HBK.out (by decide))) HE_6.out)
  unfold NV.val at HCALL
  simp only [] at HCALL
  go_wp2_with fail
  refine HCALL.out.mono ?_
  rintro e w7 ⟨hb, kdD, xnD, flD, txD, laD, lbD, lcD, raD, rbD, rcD, oaD, onD, ocD, kaD, knD, kcD, rfl, hx⟩
  clear HCALL
  clear n0 n1 n2 n3 n4 n5 n6 n7 n8 n9 n10 n11 ln
  have HB_7 := Lib.hid (HB_6.out.trans (hb.mono HB_6.out.size))
  have HE_7 := Lib.hid (HE_6.out.below hb)
  have HN_7 := Lib.hid (HN_6.out.belowW hb)
  have HX_7 := Lib.hid (HX_6.out.belowW hb)
  have HY_7 := Lib.hid (HY_6.out.belowW hb)
  have HC_7 := Lib.hid (HC_6.out.belowW hb)
  clear HB_6 HE_6 HN_6 HX_6 HY_6 HC_6
  have HZ_7 := Lib.hid hx
  clear hb hx
  have hba := (Below.refl w7.heap.size w7).alloc (Nat.le_refl _) (.cells #[.int .i64 kdD, .string (str flD), .string (str txD), .int .i64 xnD, .bool laD, .bool lbD, .string (str lcD), .bool raD, .bool rbD, .string (str rcD), .slice oaD onD ocD, .slice kaD knD kcD] 27)
  have HBXN := Lib.hid (Blk.new w7 27 #[.int .i64 kdD, .string (str flD), .string (str txD), .int .i64 xnD, .bool laD, .bool lbD, .string (str lcD), .bool raD, .bool rbD, .string (str rcD), .slice oaD onD ocD, .slice kaD knD kcD])
  have HB_8 := Lib.hid (HB_7.out.trans (hba.mono HB_7.out.size))
  have HE_8 := Lib.hid (HE_7.out.below hba)
  have HN_8 := Lib.hid (HN_7.out.belowW hba)
  have HX_8 := Lib.hid (HX_7.out.belowW hba)
  have HY_8 := Lib.hid (HY_7.out.belowW hba)
  have HC_8 := Lib.hid (HC_7.out.belowW hba)
  have HZ_8 := Lib.hid (HZ_7.out.belowW hba)
  clear hba HB_7 HE_7 HN_7 HX_7 HY_7 HC_7 HZ_7
  have HD_8 := Lib.hid HBXN.out
  clear HBXN
  have nzz := HC_8.out
  have n0 := nzz.cell 0
  have n1 := nzz.cell 1
  have n2 := nzz.cell 2
  have n3 := nzz.cell 3
  have n4 := nzz.cell 4
  have n5 := nzz.cell 5
  have n6 := nzz.cell 6
  have n7 := nzz.cell 7
  have n8 := nzz.cell 8
  have n9 := nzz.cell 9
  have n10 := nzz.cell 10
  have n11 := nzz.cell 11
  have ln := nzz.lt
  simp only [List.getElem?_toArray, List.getElem?_cons_zero, List.getElem?_cons_succ] at n0 n1 n2 n3 n4 n5 n6 n7 n8 n9 n10 n11
  clear nzz
  have dzz := HD_8.out
  have d0 := dzz.cell 0
  have d1 := dzz.cell 1
  have d2 := dzz.cell 2
  have d3 := dzz.cell 3
  have d4 := dzz.cell 4
  have d5 := dzz.cell 5
  have d6 := dzz.cell 6
  have d7 := dzz.cell 7
  have d8 := dzz.cell 8
  have d9 := dzz.cell 9
  have d10 := dzz.cell 10
  have d11 := dzz.cell 11
  have ld := dzz.lt
  simp only [List.getElem?_toArray, List.getElem?_cons_zero, List.getElem?_cons_succ] at d0 d1 d2 d3 d4 d5 d6 d7 d8 d9 d10 d11
  clear dzz
  go_wp2_with fail
  generalize (w7.alloc (.cells #[.int .i64 kdD, .string (str flD), .string (str txD), .int .i64 xnD, .bool laD, .bool lbD, .string (str lcD), .bool raD, .bool rbD, .string (str rcD), .slice oaD onD ocD, .slice kaD knD kcD] 27)) = w8 at *
  have HCALL := Lib.hid (rsame_as (same_self (canonN t)) HY_8.out HZ_8.out)
  unfold NV.val at HCALL
  simp only [] at HCALL
  skip
  refine HCALL.out.mono ?_
  rintro e w9 ⟨rfl, hb⟩
  clear HCALL
  clear n0 n1 n2 n3 n4 n5 n6 n7 n8 n9 n10 n11 ln
  clear d0 d1 d2 d3 d4 d5 d6 d7 d8 d9 d10 d11 ld
  have HB_9 := Lib.hid (HB_8.out.trans (hb.mono HB_8.out.size))
  have HE_9 := Lib.hid (HE_8.out.below hb)
  have HN_9 := Lib.hid (HN_8.out.belowW hb)
  have HX_9 := Lib.hid (HX_8.out.belowW hb)
  have HY_9 := Lib.hid (HY_8.out.belowW hb)
  have HC_9 := Lib.hid (HC_8.out.belowW hb)
  have HZ_9 := Lib.hid (HZ_8.out.belowW hb)
  have HD_9 := Lib.hid (HD_8.out.belowW hb)
  clear HB_8 HE_8 HN_8 HX_8 HY_8 HC_8 HZ_8 HD_8
  clear hb
  have nzz := HC_9.out
  have n0 := nzz.cell 0
  have n1 := nzz.cell 1
  have n2 := nzz.cell 2
  have n3 := nzz.cell 3
  have n4 := nzz.cell 4
  have n5 := nzz.cell 5
  have n6 := nzz.cell 6
  have n7 := nzz.cell 7
  have n8 := nzz.cell 8
  have n9 := nzz.cell 9
  have n10 := nzz.cell 10
  have n11 := nzz.cell 11
  have ln := nzz.lt
  simp only [List.getElem?_toArray, List.getElem?_cons_zero, List.getElem?_cons_succ] at n0 n1 n2 n3 n4 n5 n6 n7 n8 n9 n10 n11
  clear nzz
  have dzz := HD_9.out
  have d0 := dzz.cell 0
  have d1 := dzz.cell 1
  have d2 := dzz.cell 2
  have d3 := dzz.cell 3
  have d4 := dzz.cell 4
  have d5 := dzz.cell 5
  have d6 := dzz.cell 6
  have d7 := dzz.cell 7
  have d8 := dzz.cell 8
  have d9 := dzz.cell 9
  have d10 := dzz.cell 10
  have d11 := dzz.cell 11
  have ld := dzz.lt
  simp only [List.getElem?_toArray, List.getElem?_cons_zero, List.getElem?_cons_succ] at d0 d1 d2 d3 d4 d5 d6 d7 d8 d9 d10 d11
  clear dzz
  have HCALL := Lib.hid (psame_as (same_self (canonN t)) HY_9.out HZ_9.out)
  unfold NV.val at HCALL
  simp only [] at HCALL
  go_wp2_with fail
  refine HCALL.out.mono ?_
  rintro e w10 ⟨rfl, hb⟩
  clear HCALL
  clear n0 n1 n2 n3 n4 n5 n6 n7 n8 n9 n10 n11 ln
  clear d0 d1 d2 d3 d4 d5 d6 d7 d8 d9 d10 d11 ld
  have HB_10 := Lib.hid (HB_9.out.trans (hb.mono HB_9.out.size))
  have HE_10 := Lib.hid (HE_9.out.below hb)
  have HN_10 := Lib.hid (HN_9.out.belowW hb)
  have HX_10 := Lib.hid (HX_9.out.belowW hb)
  have HY_10 := Lib.hid (HY_9.out.belowW hb)
  have HC_10 := Lib.hid (HC_9.out.belowW hb)
  have HZ_10 := Lib.hid (HZ_9.out.belowW hb)
  have HD_10 := Lib.hid (HD_9.out.belowW hb)
  clear HB_9 HE_9 HN_9 HX_9 HY_9 HC_9 HZ_9 HD_9
  clear hb
  clear HD_10
  clear HZ_10
  have nzz := HN_10.out
  have n0 := nzz.cell 0
  have n1 := nzz.cell 1
  have n2 := nzz.cell 2
  have n3 := nzz.cell 3
  have n4 := nzz.cell 4
  have n5 := nzz.cell 5
  have n6 := nzz.cell 6
  have n7 := nzz.cell 7
  have n8 := nzz.cell 8
  have n9 := nzz.cell 9
  have n10 := nzz.cell 10
  have n11 := nzz.cell 11
  have ln := nzz.lt
  simp only [List.getElem?_toArray, List.getElem?_cons_zero, List.getElem?_cons_succ] at n0 n1 n2 n3 n4 n5 n6 n7 n8 n9 n10 n11
  clear nzz
  have HCALL := Lib.hid (pprint_yes t HG.out w10 _ _ ea 17 HX_10.out (Nat.le_trans HBK.out (by decide)) HE_10.out.pr HE_10.out.node)
  unfold NV.val at HCALL
  simp only [] at HCALL
  go_wp2_with fail
  refine HCALL.out.mono ?_
  rintro e w11 ⟨hb, rfl⟩
  clear HCALL
  clear n0 n1 n2 n3 n4 n5 n6 n7 n8 n9 n10 n11 ln
  have HB_11 := Lib.hid (HB_10.out.trans (hb.mono HB_10.out.size))
  have HE_11 := Lib.hid (HE_10.out.below hb)
  have HN_11 := Lib.hid (HN_10.out.belowW hb)
  have HX_11 := Lib.hid (HX_10.out.belowW hb)
  have HY_11 := Lib.hid (HY_10.out.belowW hb)
  have HC_11 := Lib.hid (HC_10.out.belowW hb)
  clear HB_10 HE_10 HN_10 HX_10 HY_10 HC_10
  clear hb
  have nzz := HC_11.out
  have n0 := nzz.cell 0
  have n1 := nzz.cell 1
  have n2 := nzz.cell 2
  have n3 := nzz.cell 3
  have n4 := nzz.cell 4
  have n5 := nzz.cell 5
  have n6 := nzz.cell 6
  have n7 := nzz.cell 7
  have n8 := nzz.cell 8
  have n9 := nzz.cell 9
  have n10 := nzz.cell 10
  have n11 := nzz.cell 11
  have ln := nzz.lt
  simp only [List.getElem?_toArray, List.getElem?_cons_zero, List.getElem?_cons_succ] at n0 n1 n2 n3 n4 n5 n6 n7 n8 n9 n10 n11
  clear nzz
  have HCALL := Lib.hid (pprint_as (canon_good t HG.out) (canon_canon t) rfl HY_11.out (Nat.le_trans (canon_bk t) (Nat.le_trans HBK.out (by decide))) HE_11.out)
  unfold NV.val at HCALL
  simp only [] at HCALL
  go_wp2_with fail
  refine HCALL.out.mono ?_
  rintro e w12 ⟨hb, rfl⟩
  clear HCALL
  clear n0 n1 n2 n3 n4 n5 n6 n7 n8 n9 n10 n11 ln
  have HB_12 := Lib.hid (HB_11.out.trans (hb.mono HB_11.out.size))
  have HE_12 := Lib.hid (HE_11.out.below hb)
  have HN_12 := Lib.hid (HN_11.out.belowW hb)
  have HX_12 := Lib.hid (HX_11.out.belowW hb)
  have HY_12 := Lib.hid (HY_11.out.belowW hb)
  have HC_12 := Lib.hid (HC_11.out.belowW hb)
  clear HB_11 HE_11 HN_11 HX_11 HY_11 HC_11
  clear hb
  generalize hfs : str (formN (canonN t)) = fs at *
  have HFS := Lib.hid hfs
  clear hfs
  have nzz := HN_12.out
  have n0 := nzz.cell 0
  have n1 := nzz.cell 1
  have n2 := nzz.cell 2
  have n3 := nzz.cell 3
  have n4 := nzz.cell 4
  have n5 := nzz.cell 5
  have n6 := nzz.cell 6
  have n7 := nzz.cell 7
  have n8 := nzz.cell 8
  have n9 := nzz.cell 9
  have n10 := nzz.cell 10
  have n11 := nzz.cell 11
  have ln := nzz.lt
  simp only [List.getElem?_toArray, List.getElem?_cons_zero, List.getElem?_cons_succ] at n0 n1 n2 n3 n4 n5 n6 n7 n8 n9 n10 n11
  clear nzz
  obtain ⟨u, hu⟩ : ∃ u, u = IntKind.u64.wrap kind := ⟨_, rfl⟩
  have hub : 0 ≤ u ∧ u < 18446744073709551616 := by rw [hu, IntKind.wrap_u64]; omega
  have hu2 := hu.symm
  clear hu
  have HNA := Lib.hid (show Blk (((w12.alloc (.cells #[.int .i64 kdN, .string (str flN), .string (str txN), .int .i64 xnN, .bool laN, .bool lbN, .string (str lcN), .bool raN, .bool rbN, .string (str rcN), .slice oaN onN ocN, .slice kaN knN kcN] 27)).alloc (.cells #[.int .i64 (10 + u % 3), .string ⟨#[]⟩, .string ⟨#[]⟩, .int .i64 0, .bool false, .bool false, .string ⟨#[]⟩, .bool false, .bool false, .string ⟨#[]⟩, .slice none 0 0, .slice (some ⟨w12.heap.size, 0, none⟩) 1 1] 27)).alloc (.cells #[.int .i64 0] 3)) w.heap.size 27 #[.int .i64 kdN, .string (str flN), .string (str txN), .int .i64 xnN, .bool laN, .bool lbN, .string (str lcN), .bool raN, .bool rbN, .string (str rcN), .slice oaN onN ocN, .slice kaN knN kcN] from ((HN_12.out.alloc _).alloc _).alloc _)
  go_upto_if 94 with (fail)
  clear n0 n1 n2 n3 n4 n5 n6 n7 n8 n9 n10 n11 ln
  go_cut [] (fun wx => ArR t w12 wx)
  case first =>
    by_cases h4 : u % 4 = 3
    · have e4 : (u % 4 == 3) = true := by rw [beq_iff_eq]; exact h4
      clear h4
      have nzz := HNA.out
      have n0 := nzz.cell 0
      have n1 := nzz.cell 1
      have n2 := nzz.cell 2
      have n3 := nzz.cell 3
      have n4 := nzz.cell 4
      have n5 := nzz.cell 5
      have n6 := nzz.cell 6
      have n7 := nzz.cell 7
      have n8 := nzz.cell 8
      have n9 := nzz.cell 9
      have n10 := nzz.cell 10
      have n11 := nzz.cell 11
      have ln := nzz.lt
      simp only [List.getElem?_toArray, List.getElem?_cons_zero, List.getElem?_cons_succ] at n0 n1 n2 n3 n4 n5 n6 n7 n8 n9 n10 n11
      clear nzz
      go_wp2
      go_meet
      have hz1 := World.size_alloc w12 (.cells #[.int .i64 kdN, .string (str flN), .string (str txN), .int .i64 xnN, .bool laN, .bool lbN, .string (str lcN), .bool raN, .bool rbN, .string (str rcN), .slice oaN onN ocN, .slice kaN knN kcN] 27)
      have hz2 := World.size_alloc (w12.alloc (.cells #[.int .i64 kdN, .string (str flN), .string (str txN), .int .i64 xnN, .bool laN, .bool lbN, .string (str lcN), .bool raN, .bool rbN, .string (str rcN), .slice oaN onN ocN, .slice kaN knN kcN] 27)) (.cells #[.int .i64 9, .string ⟨#[]⟩, .string ⟨#[]⟩, .int .i64 0, .bool false, .bool false, .string ⟨#[]⟩, .bool false, .bool false, .string ⟨#[]⟩, .slice (some ⟨w12.heap.size + 1 + 1, 0, none⟩) 1 1, .slice (some ⟨w12.heap.size + 1 + 1 + 1, 0, none⟩) 1 1] 27)
      have hz3 := World.size_alloc ((w12.alloc (.cells #[.int .i64 kdN, .string (str flN), .string (str txN), .int .i64 xnN, .bool laN, .bool lbN, .string (str lcN), .bool raN, .bool rbN, .string (str rcN), .slice oaN onN ocN, .slice kaN knN kcN] 27)).alloc (.cells #[.int .i64 9, .string ⟨#[]⟩, .string ⟨#[]⟩, .int .i64 0, .bool false, .bool false, .string ⟨#[]⟩, .bool false, .bool false, .string ⟨#[]⟩, .slice (some ⟨w12.heap.size + 1 + 1, 0, none⟩) 1 1, .slice (some ⟨w12.heap.size + 1 + 1 + 1, 0, none⟩) 1 1] 27)) (.cells #[.int .i64 0] 3)
      have hz4 := World.size_alloc (((w12.alloc (.cells #[.int .i64 kdN, .string (str flN), .string (str txN), .int .i64 xnN, .bool laN, .bool lbN, .string (str lcN), .bool raN, .bool rbN, .string (str rcN), .slice oaN onN ocN, .slice kaN knN kcN] 27)).alloc (.cells #[.int .i64 9, .string ⟨#[]⟩, .string ⟨#[]⟩, .int .i64 0, .bool false, .bool false, .string ⟨#[]⟩, .bool false, .bool false, .string ⟨#[]⟩, .slice (some ⟨w12.heap.size + 1 + 1, 0, none⟩) 1 1, .slice (some ⟨w12.heap.size + 1 + 1 + 1, 0, none⟩) 1 1] 27)).alloc (.cells #[.int .i64 0] 3)) (.cells #[.int .i64 kdN, .string (str flN), .string (str txN), .int .i64 xnN, .bool laN, .bool lbN, .string (str lcN), .bool raN, .bool rbN, .string (str rcN), .slice oaN onN ocN, .slice kaN knN kcN] 27)
      have b1 := (((Blk.new (w12.alloc (.cells #[.int .i64 kdN, .string (str flN), .string (str txN), .int .i64 xnN, .bool laN, .bool lbN, .string (str lcN), .bool raN, .bool rbN, .string (str rcN), .slice oaN onN ocN, .slice kaN knN kcN] 27)) 27 #[.int .i64 9, .string ⟨#[]⟩, .string ⟨#[]⟩, .int .i64 0, .bool false, .bool false, .string ⟨#[]⟩, .bool false, .bool false, .string ⟨#[]⟩, .slice (some ⟨w12.heap.size + 1 + 1, 0, none⟩) 1 1, .slice (some ⟨w12.heap.size + 1 + 1 + 1, 0, none⟩) 1 1]).alloc (.cells #[.int .i64 0] 3)).alloc (.cells #[.int .i64 kdN, .string (str flN), .string (str txN), .int .i64 xnN, .bool laN, .bool lbN, .string (str lcN), .bool raN, .bool rbN, .string (str rcN), .slice oaN onN ocN, .slice kaN knN kcN] 27))
      have b2 := ((Blk.new ((w12.alloc (.cells #[.int .i64 kdN, .string (str flN), .string (str txN), .int .i64 xnN, .bool laN, .bool lbN, .string (str lcN), .bool raN, .bool rbN, .string (str rcN), .slice oaN onN ocN, .slice kaN knN kcN] 27)).alloc (.cells #[.int .i64 9, .string ⟨#[]⟩, .string ⟨#[]⟩, .int .i64 0, .bool false, .bool false, .string ⟨#[]⟩, .bool false, .bool false, .string ⟨#[]⟩, .slice (some ⟨w12.heap.size + 1 + 1, 0, none⟩) 1 1, .slice (some ⟨w12.heap.size + 1 + 1 + 1, 0, none⟩) 1 1] 27)) 3 #[.int .i64 0]).alloc (.cells #[.int .i64 kdN, .string (str flN), .string (str txN), .int .i64 xnN, .bool laN, .bool lbN, .string (str lcN), .bool raN, .bool rbN, .string (str rcN), .slice oaN onN ocN, .slice kaN knN kcN] 27))
      have b3 := Blk.new (((w12.alloc (.cells #[.int .i64 kdN, .string (str flN), .string (str txN), .int .i64 xnN, .bool laN, .bool lbN, .string (str lcN), .bool raN, .bool rbN, .string (str rcN), .slice oaN onN ocN, .slice kaN knN kcN] 27)).alloc (.cells #[.int .i64 9, .string ⟨#[]⟩, .string ⟨#[]⟩, .int .i64 0, .bool false, .bool false, .string ⟨#[]⟩, .bool false, .bool false, .string ⟨#[]⟩, .slice (some ⟨w12.heap.size + 1 + 1, 0, none⟩) 1 1, .slice (some ⟨w12.heap.size + 1 + 1 + 1, 0, none⟩) 1 1] 27)).alloc (.cells #[.int .i64 0] 3)) 27 #[.int .i64 kdN, .string (str flN), .string (str txN), .int .i64 xnN, .bool laN, .bool lbN, .string (str lcN), .bool raN, .bool rbN, .string (str rcN), .slice oaN onN ocN, .slice kaN knN kcN]
      rw [hz1] at b1
      rw [hz2, hz1] at b2
      rw [hz3, hz2, hz1] at b3
      have hsz : ((((w12.alloc (.cells #[.int .i64 kdN, .string (str flN), .string (str txN), .int .i64 xnN, .bool laN, .bool lbN, .string (str lcN), .bool raN, .bool rbN, .string (str rcN), .slice oaN onN ocN, .slice kaN knN kcN] 27)).alloc (.cells #[.int .i64 9, .string ⟨#[]⟩, .string ⟨#[]⟩, .int .i64 0, .bool false, .bool false, .string ⟨#[]⟩, .bool false, .bool false, .string ⟨#[]⟩, .slice (some ⟨w12.heap.size + 1 + 1, 0, none⟩) 1 1, .slice (some ⟨w12.heap.size + 1 + 1 + 1, 0, none⟩) 1 1] 27)).alloc (.cells #[.int .i64 0] 3)).alloc (.cells #[.int .i64 kdN, .string (str flN), .string (str txN), .int .i64 xnN, .bool laN, .bool lbN, .string (str lcN), .bool raN, .bool rbN, .string (str rcN), .slice oaN onN ocN, .slice kaN knN kcN] 27)).heap.size = w12.heap.size + 1 + 1 + 1 + 1 := by rw [hz4, hz3, hz2, hz1]
      have hbw : Below w12.heap.size w12 ((((w12.alloc (.cells #[.int .i64 kdN, .string (str flN), .string (str txN), .int .i64 xnN, .bool laN, .bool lbN, .string (str lcN), .bool raN, .bool rbN, .string (str rcN), .slice oaN onN ocN, .slice kaN knN kcN] 27)).alloc (.cells #[.int .i64 9, .string ⟨#[]⟩, .string ⟨#[]⟩, .int .i64 0, .bool false, .bool false, .string ⟨#[]⟩, .bool false, .bool false, .string ⟨#[]⟩, .slice (some ⟨w12.heap.size + 1 + 1, 0, none⟩) 1 1, .slice (some ⟨w12.heap.size + 1 + 1 + 1, 0, none⟩) 1 1] 27)).alloc (.cells #[.int .i64 0] 3)).alloc (.cells #[.int .i64 kdN, .string (str flN), .string (str txN), .int .i64 xnN, .bool laN, .bool lbN, .string (str lcN), .bool raN, .bool rbN, .string (str rcN), .slice oaN onN ocN, .slice kaN knN kcN] 27)) := ((((Below.refl _ _).alloc (Nat.le_refl _) _).alloc (by rw [hz1]; omega) _).alloc (by rw [hz2, hz1]; omega) _).alloc (by rw [hz3, hz2, hz1]; omega) _
      obtain ⟨p1, p2, p3, p4⟩ := around_list HG.out
      refine ⟨⟨9, [], [], 0, bd0, bd0, ⟨some ⟨w12.heap.size + 1 + 1, 0, none⟩, 1, 1⟩, ⟨some ⟨w12.heap.size + 1 + 1 + 1, 0, none⟩, 1, 1⟩⟩, .mk 9 [] [] 0 bd0 bd0 [0] [t], hbw, b1, ?_, p1, p2, p3, by rw [p4]; exact Nat.le_refl _⟩
      exact nd_one (x := ⟨kdN, flN, txN, xnN, ⟨laN, lbN, lcN⟩, ⟨raN, rbN, rcN⟩, ⟨oaN, onN, ocN⟩, ⟨kaN, knN, kcN⟩⟩) b3 (by show _ < _; rw [hsz]; omega) (RdF.row (S := folS) (l := [0]) (T := 3) b2 (by show _ < _; rw [hsz]; omega) (by simp)) ((HX_12.out.belowW hbw).mono fun b hb => Nat.lt_of_lt_of_le hb (Nat.le_trans HB_12.out.size (by rw [hsz]; omega)))
    · have e4 : (u % 4 == 3) = false := by rw [beq_eq_false_iff_ne]; exact h4
      clear h4
      go_wp2
      go_meet
      have hz1 := World.size_alloc w12 (.cells #[.int .i64 kdN, .string (str flN), .string (str txN), .int .i64 xnN, .bool laN, .bool lbN, .string (str lcN), .bool raN, .bool rbN, .string (str rcN), .slice oaN onN ocN, .slice kaN knN kcN] 27)
      have hz2 := World.size_alloc (w12.alloc (.cells #[.int .i64 kdN, .string (str flN), .string (str txN), .int .i64 xnN, .bool laN, .bool lbN, .string (str lcN), .bool raN, .bool rbN, .string (str rcN), .slice oaN onN ocN, .slice kaN knN kcN] 27)) (.cells #[.int .i64 (10 + u % 3), .string ⟨#[]⟩, .string ⟨#[]⟩, .int .i64 0, .bool false, .bool false, .string ⟨#[]⟩, .bool false, .bool false, .string ⟨#[]⟩, .slice none 0 0, .slice (some ⟨w12.heap.size, 0, none⟩) 1 1] 27)
      have b1 := Blk.new (w12.alloc (.cells #[.int .i64 kdN, .string (str flN), .string (str txN), .int .i64 xnN, .bool laN, .bool lbN, .string (str lcN), .bool raN, .bool rbN, .string (str rcN), .slice oaN onN ocN, .slice kaN knN kcN] 27)) 27 #[.int .i64 (10 + u % 3), .string ⟨#[]⟩, .string ⟨#[]⟩, .int .i64 0, .bool false, .bool false, .string ⟨#[]⟩, .bool false, .bool false, .string ⟨#[]⟩, .slice none 0 0, .slice (some ⟨w12.heap.size, 0, none⟩) 1 1]
      have b3 := (Blk.new w12 27 #[.int .i64 kdN, .string (str flN), .string (str txN), .int .i64 xnN, .bool laN, .bool lbN, .string (str lcN), .bool raN, .bool rbN, .string (str rcN), .slice oaN onN ocN, .slice kaN knN kcN]).alloc (.cells #[.int .i64 (10 + u % 3), .string ⟨#[]⟩, .string ⟨#[]⟩, .int .i64 0, .bool false, .bool false, .string ⟨#[]⟩, .bool false, .bool false, .string ⟨#[]⟩, .slice none 0 0, .slice (some ⟨w12.heap.size, 0, none⟩) 1 1] 27)
      rw [hz1] at b1
      have hsz : ((w12.alloc (.cells #[.int .i64 kdN, .string (str flN), .string (str txN), .int .i64 xnN, .bool laN, .bool lbN, .string (str lcN), .bool raN, .bool rbN, .string (str rcN), .slice oaN onN ocN, .slice kaN knN kcN] 27)).alloc (.cells #[.int .i64 (10 + u % 3), .string ⟨#[]⟩, .string ⟨#[]⟩, .int .i64 0, .bool false, .bool false, .string ⟨#[]⟩, .bool false, .bool false, .string ⟨#[]⟩, .slice none 0 0, .slice (some ⟨w12.heap.size, 0, none⟩) 1 1] 27)).heap.size = w12.heap.size + 1 + 1 := by rw [hz2, hz1]
      have hbw : Below w12.heap.size w12 ((w12.alloc (.cells #[.int .i64 kdN, .string (str flN), .string (str txN), .int .i64 xnN, .bool laN, .bool lbN, .string (str lcN), .bool raN, .bool rbN, .string (str rcN), .slice oaN onN ocN, .slice kaN knN kcN] 27)).alloc (.cells #[.int .i64 (10 + u % 3), .string ⟨#[]⟩, .string ⟨#[]⟩, .int .i64 0, .bool false, .bool false, .string ⟨#[]⟩, .bool false, .bool false, .string ⟨#[]⟩, .slice none 0 0, .slice (some ⟨w12.heap.size, 0, none⟩) 1 1] 27)) := ((Below.refl _ _).alloc (Nat.le_refl _) _).alloc (by rw [hz1]; omega) _
      obtain ⟨p1, p2, p3, p4⟩ := around_three (k := 10 + u % 3) (by omega) HG.out
      refine ⟨⟨10 + u % 3, [], [], 0, bd0, bd0, ⟨none, 0, 0⟩, ⟨some ⟨w12.heap.size, 0, none⟩, 1, 1⟩⟩, .mk (10 + u % 3) [] [] 0 bd0 bd0 [] [t], hbw, b1, ?_, p1, p2, p3, by rw [p4]; omega⟩
      exact nd_one (x := ⟨kdN, flN, txN, xnN, ⟨laN, lbN, lcN⟩, ⟨raN, rbN, rcN⟩, ⟨oaN, onN, ocN⟩, ⟨kaN, knN, kcN⟩⟩) b3 (by show _ < _; rw [hsz]; omega) (RdF.nil _ _ _) ((HX_12.out.belowW hbw).mono fun b hb => Nat.lt_of_lt_of_le hb (Nat.le_trans HB_12.out.size (by rw [hsz]; omega)))
  case rest =>
  clear hub hu2 HNA
  obtain ⟨y, ar, hb, hA, hy, hg2, hc2, hs2, hk2⟩ := hcut
  generalize wc = w13 at *
  have HB_13 := Lib.hid (HB_12.out.trans (hb.mono HB_12.out.size))
  have HE_13 := Lib.hid (HE_12.out.below hb)
  have HN_13 := Lib.hid (HN_12.out.belowW hb)
  have HX_13 := Lib.hid (HX_12.out.belowW hb)
  have HY_13 := Lib.hid (HY_12.out.belowW hb)
  have HC_13 := Lib.hid (HC_12.out.belowW hb)
  clear HB_12 HE_12 HN_12 HX_12 HY_12 HC_12
  have HAR := Lib.hid hg2; have HCR := Lib.hid hc2; have HSR := Lib.hid hs2; have HKR := Lib.hid (show bkN ar ≤ 2000000 from Nat.le_trans hk2 (by have := HBK.out; omega))
  obtain ⟨kdA, flA, txA, xnA, ⟨laA, lbA, lcA⟩, ⟨raA, rbA, rcA⟩, ⟨oaA, onA, ocA⟩, ⟨kaA, knA, kcA⟩⟩ := y
  have HA_13 := Lib.hid (show Blk w13 (w12.heap.size + 1) 27 #[.int .i64 kdA, .string (str flA), .string (str txA), .int .i64 xnA, .bool laA, .bool lbA, .string (str lcA), .bool raA, .bool rbA, .string (str rcA), .slice oaA onA ocA, .slice kaA knA kcA] from hA)
  have HR_13 := Lib.hid hy
  clear hb hA hy hg2 hc2 hs2 hk2
  have nzz := HA_13.out
  have n0 := nzz.cell 0
  have n1 := nzz.cell 1
  have n2 := nzz.cell 2
  have n3 := nzz.cell 3
  have n4 := nzz.cell 4
  have n5 := nzz.cell 5
  have n6 := nzz.cell 6
  have n7 := nzz.cell 7
  have n8 := nzz.cell 8
  have n9 := nzz.cell 9
  have n10 := nzz.cell 10
  have n11 := nzz.cell 11
  have ln := nzz.lt
  simp only [List.getElem?_toArray, List.getElem?_cons_zero, List.getElem?_cons_succ] at n0 n1 n2 n3 n4 n5 n6 n7 n8 n9 n10 n11
  clear nzz
  have HCALL := Lib.hid (pprint_as HAR.out HCR.out HFS.out HR_13.out HKR.out HE_13.out)
  unfold NV.val at HCALL
  simp only [] at HCALL
  go_wp2_with fail
  refine HCALL.out.mono ?_
  rintro e w14 ⟨hb, rfl⟩
  clear HCALL
  clear n0 n1 n2 n3 n4 n5 n6 n7 n8 n9 n10 n11 ln
  have HB_14 := Lib.hid (HB_13.out.trans (hb.mono HB_13.out.size))
  have HE_14 := Lib.hid (HE_13.out.below hb)
  have HN_14 := Lib.hid (HN_13.out.belowW hb)
  have HX_14 := Lib.hid (HX_13.out.belowW hb)
  have HY_14 := Lib.hid (HY_13.out.belowW hb)
  have HC_14 := Lib.hid (HC_13.out.belowW hb)
  have HA_14 := Lib.hid (HA_13.out.belowW hb)
  have HR_14 := Lib.hid (HR_13.out.belowW hb)
  clear HB_13 HE_13 HN_13 HX_13 HY_13 HC_13 HA_13 HR_13
  clear hb
  have nzz := HA_14.out
  have n0 := nzz.cell 0
  have n1 := nzz.cell 1
  have n2 := nzz.cell 2
  have n3 := nzz.cell 3
  have n4 := nzz.cell 4
  have n5 := nzz.cell 5
  have n6 := nzz.cell 6
  have n7 := nzz.cell 7
  have n8 := nzz.cell 8
  have n9 := nzz.cell 9
  have n10 := nzz.cell 10
  have n11 := nzz.cell 11
  have ln := nzz.lt
  simp only [List.getElem?_toArray, List.getElem?_cons_zero, List.getElem?_cons_succ] at n0 n1 n2 n3 n4 n5 n6 n7 n8 n9 n10 n11
  clear nzz
  have HCALL := Lib.hid (pcanon_as HAR.out HCR.out HR_14.out HKR.out HE_14.out)
  unfold NV.val at HCALL
  simp only [] at HCALL
  go_wp2_with fail
  refine HCALL.out.mono ?_
  rintro e w15 ⟨hb, kdE, xnE, flE, txE, laE, lbE, lcE, raE, rbE, rcE, oaE, onE, ocE, kaE, knE, kcE, rfl, hx⟩
  clear HCALL
  clear n0 n1 n2 n3 n4 n5 n6 n7 n8 n9 n10 n11 ln
  have HB_15 := Lib.hid (HB_14.out.trans (hb.mono HB_14.out.size))
  have HE_15 := Lib.hid (HE_14.out.below hb)
  have HN_15 := Lib.hid (HN_14.out.belowW hb)
  have HX_15 := Lib.hid (HX_14.out.belowW hb)
  have HY_15 := Lib.hid (HY_14.out.belowW hb)
  have HC_15 := Lib.hid (HC_14.out.belowW hb)
  have HA_15 := Lib.hid (HA_14.out.belowW hb)
  have HR_15 := Lib.hid (HR_14.out.belowW hb)
  clear HB_14 HE_14 HN_14 HX_14 HY_14 HC_14 HA_14 HR_14
  have HV_15 := Lib.hid hx
  clear hb hx
  have hba := (Below.refl w15.heap.size w15).alloc (Nat.le_refl _) (.cells #[.int .i64 kdE, .string (str flE), .string (str txE), .int .i64 xnE, .bool laE, .bool lbE, .string (str lcE), .bool raE, .bool rbE, .string (str rcE), .slice oaE onE ocE, .slice kaE knE kcE] 27)
  have HBXN := Lib.hid (Blk.new w15 27 #[.int .i64 kdE, .string (str flE), .string (str txE), .int .i64 xnE, .bool laE, .bool lbE, .string (str lcE), .bool raE, .bool rbE, .string (str rcE), .slice oaE onE ocE, .slice kaE knE kcE])
  have HB_16 := Lib.hid (HB_15.out.trans (hba.mono HB_15.out.size))
  have HE_16 := Lib.hid (HE_15.out.below hba)
  have HN_16 := Lib.hid (HN_15.out.belowW hba)
  have HX_16 := Lib.hid (HX_15.out.belowW hba)
  have HY_16 := Lib.hid (HY_15.out.belowW hba)
  have HC_16 := Lib.hid (HC_15.out.belowW hba)
  have HA_16 := Lib.hid (HA_15.out.belowW hba)
  have HR_16 := Lib.hid (HR_15.out.belowW hba)
  have HV_16 := Lib.hid (HV_15.out.belowW hba)
  clear hba HB_15 HE_15 HN_15 HX_15 HY_15 HC_15 HA_15 HR_15 HV_15
  have HG_16 := Lib.hid HBXN.out
  clear HBXN
  go_wp2_with fail
  generalize (w15.alloc (.cells #[.int .i64 kdE, .string (str flE), .string (str txE), .int .i64 xnE, .bool laE, .bool lbE, .string (str lcE), .bool raE, .bool rbE, .string (str rcE), .slice oaE onE ocE, .slice kaE knE kcE] 27)) = w16 at *
  have hzz : szt ≤ 1048576 := by have h1 := size_bk t; have h2 := HBK.out; have h3 := HSZ.out; omega
  have hwz : IntKind.i64.wrap ((szt : Int) + 1) = (szt : Int) + 1 := wrap15_i64 _ (by omega) (by omega)
  have HSF := Lib.hid (fun (W : World) (hW : Below w16.heap.size w16 W) => (show W.cell? ⟨w15.heap.size, 0, none⟩ = some (.int .i64 kdE) ∧ W.cell? ⟨w15.heap.size, 1, none⟩ = some (.string (str flE)) ∧ W.cell? ⟨w15.heap.size, 2, none⟩ = some (.string (str txE)) ∧ W.cell? ⟨w15.heap.size, 3, none⟩ = some (.int .i64 xnE) ∧ W.cell? ⟨w15.heap.size, 4, none⟩ = some (.bool laE) ∧ W.cell? ⟨w15.heap.size, 5, none⟩ = some (.bool lbE) ∧ W.cell? ⟨w15.heap.size, 6, none⟩ = some (.string (str lcE)) ∧ W.cell? ⟨w15.heap.size, 7, none⟩ = some (.bool raE) ∧ W.cell? ⟨w15.heap.size, 8, none⟩ = some (.bool rbE) ∧ W.cell? ⟨w15.heap.size, 9, none⟩ = some (.string (str rcE)) ∧ W.cell? ⟨w15.heap.size, 10, none⟩ = some (.slice oaE onE ocE) ∧ W.cell? ⟨w15.heap.size, 11, none⟩ = some (.slice kaE knE kcE) ∧ W.cell? ⟨w4.heap.size, 0, none⟩ = some (.int .i64 kdC) ∧ W.cell? ⟨w4.heap.size, 1, none⟩ = some (.string (str flC)) ∧ W.cell? ⟨w4.heap.size, 2, none⟩ = some (.string (str txC)) ∧ W.cell? ⟨w4.heap.size, 3, none⟩ = some (.int .i64 xnC) ∧ W.cell? ⟨w4.heap.size, 4, none⟩ = some (.bool laC) ∧ W.cell? ⟨w4.heap.size, 5, none⟩ = some (.bool lbC) ∧ W.cell? ⟨w4.heap.size, 6, none⟩ = some (.string (str lcC)) ∧ W.cell? ⟨w4.heap.size, 7, none⟩ = some (.bool raC) ∧ W.cell? ⟨w4.heap.size, 8, none⟩ = some (.bool rbC) ∧ W.cell? ⟨w4.heap.size, 9, none⟩ = some (.string (str rcC)) ∧ W.cell? ⟨w4.heap.size, 10, none⟩ = some (.slice oaC onC ocC) ∧ W.cell? ⟨w4.heap.size, 11, none⟩ = some (.slice kaC knC kcC) ∧ W.cell? ⟨w12.heap.size + 1, 0, none⟩ = some (.int .i64 kdA) ∧ W.cell? ⟨w12.heap.size + 1, 1, none⟩ = some (.string (str flA)) ∧ W.cell? ⟨w12.heap.size + 1, 2, none⟩ = some (.string (str txA)) ∧ W.cell? ⟨w12.heap.size + 1, 3, none⟩ = some (.int .i64 xnA) ∧ W.cell? ⟨w12.heap.size + 1, 4, none⟩ = some (.bool laA) ∧ W.cell? ⟨w12.heap.size + 1, 5, none⟩ = some (.bool lbA) ∧ W.cell? ⟨w12.heap.size + 1, 6, none⟩ = some (.string (str lcA)) ∧ W.cell? ⟨w12.heap.size + 1, 7, none⟩ = some (.bool raA) ∧ W.cell? ⟨w12.heap.size + 1, 8, none⟩ = some (.bool rbA) ∧ W.cell? ⟨w12.heap.size + 1, 9, none⟩ = some (.string (str rcA)) ∧ W.cell? ⟨w12.heap.size + 1, 10, none⟩ = some (.slice oaA onA ocA) ∧ W.cell? ⟨w12.heap.size + 1, 11, none⟩ = some (.slice kaA knA kcA) ∧ W.cell? ⟨w.heap.size, 0, none⟩ = some (.int .i64 kdN) ∧ W.cell? ⟨w.heap.size, 1, none⟩ = some (.string (str flN)) ∧ W.cell? ⟨w.heap.size, 2, none⟩ = some (.string (str txN)) ∧ W.cell? ⟨w.heap.size, 3, none⟩ = some (.int .i64 xnN) ∧ W.cell? ⟨w.heap.size, 4, none⟩ = some (.bool laN) ∧ W.cell? ⟨w.heap.size, 5, none⟩ = some (.bool lbN) ∧ W.cell? ⟨w.heap.size, 6, none⟩ = some (.string (str lcN)) ∧ W.cell? ⟨w.heap.size, 7, none⟩ = some (.bool raN) ∧ W.cell? ⟨w.heap.size, 8, none⟩ = some (.bool rbN) ∧ W.cell? ⟨w.heap.size, 9, none⟩ = some (.string (str rcN)) ∧ W.cell? ⟨w.heap.size, 10, none⟩ = some (.slice oaN onN ocN) ∧ W.cell? ⟨w.heap.size, 11, none⟩ = some (.slice kaN knN kcN) ∧ Below w16.heap.size w16 W from ⟨(HG_16.out.belowW hW).cell 0, (HG_16.out.belowW hW).cell 1, (HG_16.out.belowW hW).cell 2, (HG_16.out.belowW hW).cell 3, (HG_16.out.belowW hW).cell 4, (HG_16.out.belowW hW).cell 5, (HG_16.out.belowW hW).cell 6, (HG_16.out.belowW hW).cell 7, (HG_16.out.belowW hW).cell 8, (HG_16.out.belowW hW).cell 9, (HG_16.out.belowW hW).cell 10, (HG_16.out.belowW hW).cell 11, (HC_16.out.belowW hW).cell 0, (HC_16.out.belowW hW).cell 1, (HC_16.out.belowW hW).cell 2, (HC_16.out.belowW hW).cell 3, (HC_16.out.belowW hW).cell 4, (HC_16.out.belowW hW).cell 5, (HC_16.out.belowW hW).cell 6, (HC_16.out.belowW hW).cell 7, (HC_16.out.belowW hW).cell 8, (HC_16.out.belowW hW).cell 9, (HC_16.out.belowW hW).cell 10, (HC_16.out.belowW hW).cell 11, (HA_16.out.belowW hW).cell 0, (HA_16.out.belowW hW).cell 1, (HA_16.out.belowW hW).cell 2, (HA_16.out.belowW hW).cell 3, (HA_16.out.belowW hW).cell 4, (HA_16.out.belowW hW).cell 5, (HA_16.out.belowW hW).cell 6, (HA_16.out.belowW hW).cell 7, (HA_16.out.belowW hW).cell 8, (HA_16.out.belowW hW).cell 9, (HA_16.out.belowW hW).cell 10, (HA_16.out.belowW hW).cell 11, (HN_16.out.belowW hW).cell 0, (HN_16.out.belowW hW).cell 1, (HN_16.out.belowW hW).cell 2, (HN_16.out.belowW hW).cell 3, (HN_16.out.belowW hW).cell 4, (HN_16.out.belowW hW).cell 5, (HN_16.out.belowW hW).cell 6, (HN_16.out.belowW hW).cell 7, (HN_16.out.belowW hW).cell 8, (HN_16.out.belowW hW).cell 9, (HN_16.out.belowW hW).cell 10, (HN_16.out.belowW hW).cell 11, hW⟩))
  have HAR0 := Lib.hid (fun (W : World) (hW : Below w16.heap.size w16 W) => (show Calls Tryd.prog 14 #[.agg #[.int .i64 kdE, .string (str flE), .string (str txE), .int .i64 xnE, .bool laE, .bool lbE, .string (str lcE), .bool raE, .bool rbE, .string (str rcE), .slice oaE onE ocE, .slice kaE knE kcE], .agg #[.int .i64 kdC, .string (str flC), .string (str txC), .int .i64 xnC, .bool laC, .bool lbC, .string (str lcC), .bool raC, .bool rbC, .string (str rcC), .slice oaC onC ocC, .slice kaC knC kcC]] W fun e w' => e = .returned (.bool true) ∧ Below w16.heap.size w16 w' from ((psame_as (same_self (canonN t)) (HV_16.out.belowW hW) (HY_16.out.belowW hW)).mono fun e w' h => by
    exact ⟨h.1, hW.trans (h.2.mono hW.size)⟩)))
  have HAR1 := Lib.hid (fun (W : World) (hW : Below w16.heap.size w16 W) => (show Calls Tryd.prog 18 #[.agg #[.int .i64 kdA, .string (str flA), .string (str txA), .int .i64 xnA, .bool laA, .bool lbA, .string (str lcA), .bool raA, .bool rbA, .string (str rcA), .slice oaA onA ocA, .slice kaA knA kcA]] W fun e w' => e = .returned (.int .i64 ((szt + 1 : Nat) : Int)) ∧ Below w16.heap.size w16 w' from ((psize_any ar W _ _ (HR_16.out.belowW hW) (Nat.le_trans HKR.out (by decide))).mono fun e w' h => ⟨by rw [h.1, HSR.out, HSZ.out], hW.trans (h.2.mono hW.size)⟩)))
  have HAR2 := Lib.hid (fun (W : World) (hW : Below w16.heap.size w16 W) => (show Calls Tryd.prog 18 #[.agg #[.int .i64 kdN, .string (str flN), .string (str txN), .int .i64 xnN, .bool laN, .bool lbN, .string (str lcN), .bool raN, .bool rbN, .string (str rcN), .slice oaN onN ocN, .slice kaN knN kcN]] W fun e w' => e = .returned (.int .i64 (szt : Int)) ∧ Below w16.heap.size w16 w' from ((psize_any t W _ _ (HX_16.out.belowW hW) (Nat.le_trans HBK.out (by decide))).mono fun e w' h => ⟨by rw [h.1, HSZ.out], hW.trans (h.2.mono hW.size)⟩)))

  go_region_held3 (fun W => W.cell? ⟨w15.heap.size, 0, none⟩ = some (.int .i64 kdE) ∧ W.cell? ⟨w15.heap.size, 1, none⟩ = some (.string (str flE)) ∧ W.cell? ⟨w15.heap.size, 2, none⟩ = some (.string (str txE)) ∧ W.cell? ⟨w15.heap.size, 3, none⟩ = some (.int .i64 xnE) ∧ W.cell? ⟨w15.heap.size, 4, none⟩ = some (.bool laE) ∧ W.cell? ⟨w15.heap.size, 5, none⟩ = some (.bool lbE) ∧ W.cell? ⟨w15.heap.size, 6, none⟩ = some (.string (str lcE)) ∧ W.cell? ⟨w15.heap.size, 7, none⟩ = some (.bool raE) ∧ W.cell? ⟨w15.heap.size, 8, none⟩ = some (.bool rbE) ∧ W.cell? ⟨w15.heap.size, 9, none⟩ = some (.string (str rcE)) ∧ W.cell? ⟨w15.heap.size, 10, none⟩ = some (.slice oaE onE ocE) ∧ W.cell? ⟨w15.heap.size, 11, none⟩ = some (.slice kaE knE kcE) ∧ W.cell? ⟨w4.heap.size, 0, none⟩ = some (.int .i64 kdC) ∧ W.cell? ⟨w4.heap.size, 1, none⟩ = some (.string (str flC)) ∧ W.cell? ⟨w4.heap.size, 2, none⟩ = some (.string (str txC)) ∧ W.cell? ⟨w4.heap.size, 3, none⟩ = some (.int .i64 xnC) ∧ W.cell? ⟨w4.heap.size, 4, none⟩ = some (.bool laC) ∧ W.cell? ⟨w4.heap.size, 5, none⟩ = some (.bool lbC) ∧ W.cell? ⟨w4.heap.size, 6, none⟩ = some (.string (str lcC)) ∧ W.cell? ⟨w4.heap.size, 7, none⟩ = some (.bool raC) ∧ W.cell? ⟨w4.heap.size, 8, none⟩ = some (.bool rbC) ∧ W.cell? ⟨w4.heap.size, 9, none⟩ = some (.string (str rcC)) ∧ W.cell? ⟨w4.heap.size, 10, none⟩ = some (.slice oaC onC ocC) ∧ W.cell? ⟨w4.heap.size, 11, none⟩ = some (.slice kaC knC kcC) ∧ W.cell? ⟨w12.heap.size + 1, 0, none⟩ = some (.int .i64 kdA) ∧ W.cell? ⟨w12.heap.size + 1, 1, none⟩ = some (.string (str flA)) ∧ W.cell? ⟨w12.heap.size + 1, 2, none⟩ = some (.string (str txA)) ∧ W.cell? ⟨w12.heap.size + 1, 3, none⟩ = some (.int .i64 xnA) ∧ W.cell? ⟨w12.heap.size + 1, 4, none⟩ = some (.bool laA) ∧ W.cell? ⟨w12.heap.size + 1, 5, none⟩ = some (.bool lbA) ∧ W.cell? ⟨w12.heap.size + 1, 6, none⟩ = some (.string (str lcA)) ∧ W.cell? ⟨w12.heap.size + 1, 7, none⟩ = some (.bool raA) ∧ W.cell? ⟨w12.heap.size + 1, 8, none⟩ = some (.bool rbA) ∧ W.cell? ⟨w12.heap.size + 1, 9, none⟩ = some (.string (str rcA)) ∧ W.cell? ⟨w12.heap.size + 1, 10, none⟩ = some (.slice oaA onA ocA) ∧ W.cell? ⟨w12.heap.size + 1, 11, none⟩ = some (.slice kaA knA kcA) ∧ W.cell? ⟨w.heap.size, 0, none⟩ = some (.int .i64 kdN) ∧ W.cell? ⟨w.heap.size, 1, none⟩ = some (.string (str flN)) ∧ W.cell? ⟨w.heap.size, 2, none⟩ = some (.string (str txN)) ∧ W.cell? ⟨w.heap.size, 3, none⟩ = some (.int .i64 xnN) ∧ W.cell? ⟨w.heap.size, 4, none⟩ = some (.bool laN) ∧ W.cell? ⟨w.heap.size, 5, none⟩ = some (.bool lbN) ∧ W.cell? ⟨w.heap.size, 6, none⟩ = some (.string (str lcN)) ∧ W.cell? ⟨w.heap.size, 7, none⟩ = some (.bool raN) ∧ W.cell? ⟨w.heap.size, 8, none⟩ = some (.bool rbN) ∧ W.cell? ⟨w.heap.size, 9, none⟩ = some (.string (str rcN)) ∧ W.cell? ⟨w.heap.size, 10, none⟩ = some (.slice oaN onN ocN) ∧ W.cell? ⟨w.heap.size, 11, none⟩ = some (.slice kaN knN kcN) ∧ Below w16.heap.size w16 W) (exact HSF.out _ (by repeat (first | assumption | exact Below.refl _ _ | with_reducible refine Below.drew ?_))) (first | ((with_reducible refine (HAR0.out _ ?_).mono ?_); (repeat (first | assumption | exact Below.refl _ _ | with_reducible refine Below.drew ?_)); (rintro e w17 ⟨rfl, hk0⟩)) | ((with_reducible refine (HAR1.out _ ?_).mono ?_); (repeat (first | assumption | exact Below.refl _ _ | with_reducible refine Below.drew ?_)); (rintro e w17 ⟨rfl, hk1⟩)) | ((with_reducible refine (HAR2.out _ ?_).mono ?_); (repeat (first | assumption | exact Below.refl _ _ | with_reducible refine Below.drew ?_)); (rintro e w17 ⟨rfl, hk2⟩)))
  rename_i hfin
  have hb : Below w16.heap.size w16 w17 := hfin.2.2.2.2.2.2.2.2.2.2.2.2.2.2.2.2.2.2.2.2.2.2.2.2.2.2.2.2.2.2.2.2.2.2.2.2.2.2.2.2.2.2.2.2.2.2.2.2
  clear hfin HSF HAR0 HAR1 HAR2
  have HB_17 := Lib.hid (HB_16.out.trans (hb.mono HB_16.out.size))
  have HE_17 := Lib.hid (HE_16.out.below hb)
  have HN_17 := Lib.hid (HN_16.out.belowW hb)
  have HX_17 := Lib.hid (HX_16.out.belowW hb)
  have HY_17 := Lib.hid (HY_16.out.belowW hb)
  have HC_17 := Lib.hid (HC_16.out.belowW hb)
  have HA_17 := Lib.hid (HA_16.out.belowW hb)
  have HR_17 := Lib.hid (HR_16.out.belowW hb)
  have HV_17 := Lib.hid (HV_16.out.belowW hb)
  have HG_17 := Lib.hid (HG_16.out.belowW hb)
  clear HB_16 HE_16 HN_16 HX_16 HY_16 HC_16 HA_16 HR_16 HV_16 HG_16
  clear hb
  go_wp2
  go_ret
  exact ⟨by simp [hwz], HB_17.out⟩
end Go.Proofs.YthcldpminmhgkaaDoor
end
