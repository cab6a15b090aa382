/- Merged for a claim by shake.py: Jbl -/
import Derived.Test.YthcldpminmhgkaaDoorKrA
import Derived.Test.YthcldpminmhgkaaDoorKr36
import Derived.Test.YthcldpminmhgkaaDoorKr41
set_option maxRecDepth 100000
set_option maxHeartbeats 4000000
set_option linter.unusedSimpArgs false
set_option linter.unusedVariables false
section
namespace Go.Proofs.YthcldpminmhgkaaDoor
open Go.RowKit
theorem rcanon_as {t c : Nd} (hg : goodN t = true) (hc : canonN t = c) {w : World} {F : Nat → Prop} {x : NV} (hx : NdR w F x t) (hbk : bkN t ≤ 300000000000) : Calls Tryd.prog 22 #[x.val] w (TrE2 c (.int .i64 0) w) := by
 have h := rcanonw_yes t hg w F x hx hbk
 rw [hc] at h
 exact h
theorem rnest_as {t c : Nd} {d : Nat} (hg : goodN t = true) (hc : canonN t = c) (hd : nestN c = d) {w : World} {F : Nat → Prop} {x : NV} {ea : List Addr} (hx : NdR w F x t) (hbk : bkN t ≤ 300000000000) (hE : LawEnv w ea) : Calls Tryd.prog 31 #[x.val] w fun e w' => Below w.heap.size w w' ∧ e = .returned (.tuple #[.int .i64 (d : Int), .int .i64 0]) := by
 have h := rnestw_yes t hg w F x hx hbk hE.pr.asks
 rw [hc, hd] at h
 exact h
theorem rprint_as {t c : Nd} {fs : ByteArray} (hg : goodN t = true) (hc : canonN t = c) (hf : str (formN c) = fs) {w : World} {F : Nat → Prop} {x : NV} {ea : List Addr} (hx : NdR w F x t) (hbk : bkN t ≤ 300000000000) (hE : LawEnv w ea) : Calls Tryd.prog 32 #[x.val] w fun e w' => Below w.heap.size w w' ∧ e = .returned (.tuple #[.string fs, .int .i64 0]) := by
 have h := rprintw_yes t hg w F x hx hbk hE.pr.asks
 rw [hc, hf] at h
 exact h
theorem psize_as {t : Nd} {n : Nat} (hn : sizeN t = n) {w : World} {F : Nat → Prop} {x : NV} (hx : NdR w F x t) (hbk : bkN t ≤ 300000000000) : Calls Tryd.prog 18 #[x.val] w fun e w' => e = .returned (.int .i64 (n : Int)) ∧ Below w.heap.size w w' := by
 have h := psize_any t w F x hx (Nat.le_trans hbk (by decide))
 unfold SzRet at h
 rw [hn] at h
 exact h
theorem rsize_as {t : Nd} {n : Nat} (hn : sizeN t = n) {w : World} {F : Nat → Prop} {x : NV} (hx : NdR w F x t) (hbk : bkN t ≤ 300000000000) : Calls Tryd.prog 30 #[x.val] w fun e w' => e = .returned (.int .i64 (n : Int)) ∧ Below w.heap.size w w' := by
 have h := rsize_any t w F x hx (Nat.le_trans hbk (by decide))
 unfold SzRet at h
 rw [hn] at h
 exact h
theorem rcheck_as {t : Nd} {e0 : Int} (he : chkN t = e0) {w : World} {F : Nat → Prop} {x : NV} (hx : NdR w F x t) (hbk : bkN t ≤ 300000000000) : Calls Tryd.prog 15 #[x.val] w fun e w' => e = .returned (.int .i64 e0) ∧ Below w.heap.size w w' := by
 have h := rcheck15_any t w F x hx (Nat.le_trans hbk (by decide))
 rw [he] at h
 exact h
theorem pcheck_yes {t : Nd} (hg : goodN t = true) {w : World} {F : Nat → Prop} {x : NV} {ea : List Addr} (hx : NdR w F x t) (hbk : bkN t ≤ 300000000000) (hE : LawEnv w ea) : Calls Tryd.prog 17 #[x.val] w fun e w' => e = .returned .nilIface ∧ Below w.heap.size w w' := by
 refine (pcheck_any t w F x ea 17 hx (Nat.le_trans hbk (by decide)) hE.pr.asks hE.node).mono fun e w' h => ?_
 obtain ⟨h1, h2⟩ := h.iyes hg
 exact ⟨h2, h1⟩
theorem pcheck_no {t : Nd} (hg : goodN t = false) {w : World} {F : Nat → Prop} {x : NV} {ea : List Addr} (hx : NdR w F x t) (hbk : bkN t ≤ 300000000000) (hE : LawEnv w ea) : Calls Tryd.prog 17 #[x.val] w fun e w' => e = .returned (errI ea 17) ∧ Below w.heap.size w w' := by
 refine (pcheck_any t w F x ea 17 hx (Nat.le_trans hbk (by decide)) hE.pr.asks hE.node).mono fun e w' h => ?_
 obtain ⟨h1, h2⟩ := h.ino hg
 exact ⟨h2, h1⟩
theorem num_nil (w : World) : Calls Tryd.prog 27 #[.nilIface] w fun e w' => e = .returned (.int .i64 0) ∧ Below w.heap.size w w' := (Num_nil w).mono fun e w' h => ⟨h.1, by rw [← h.2]; exact Below.refl _ _⟩
theorem num_17 (ea : List Addr) (w : World) (hE : LawEnv w ea) : Calls Tryd.prog 27 #[errI ea 17] w fun e w' => e = .returned (.int .i64 18) ∧ Below w.heap.size w w' := (Num_17 ea w hE.er).mono fun e w' h => ⟨h.1, by rw [← h.2]; exact Below.refl _ _⟩
theorem nd_zero (w : World) (F : Nat → Prop) : NdR w F ⟨0, [], [], 0, bd0, bd0, ⟨none, 0, 0⟩, ⟨none, 0, 0⟩⟩ zeroN := .mk (RdF.nil _ _ _) (RdF.nil _ _ _) rfl fun i x t hx _ => by simp at hx
theorem zero_same (w : World) : Calls Tryd.prog 13 #[.agg nvZero, .agg nvZero] w fun e w' => e = .returned (.bool true) ∧ Below w.heap.size w w' := by
 have h := rsame_as (same_self zeroN) (nd_zero w fun _ => True) (nd_zero w fun _ => True)
 unfold NV.val at h
 simp only [bd0] at h
 rw [show str [] = ⟨#[]⟩ from rfl] at h
 exact h
theorem oneYes15 (t : Nd) (hg : goodN t = true) (w : World) (ea : List Addr) (F : Nat → Prop) (x : NV) (hx : NdR w F x t) (hbk : bkN t ≤ 300000000000) (hE : LawEnv w ea) :
  Calls Tryd.prog 12 #[x.val] w fun e w' => e = .returned (.bool true) ∧ Below w.heap.size w w' := by
 obtain ⟨kdN, flN, txN, xnN, ⟨laN, lbN, lcN⟩, ⟨raN, rbN, rcN⟩, ⟨oaN, onN, ocN⟩, ⟨kaN, knN, kcN⟩⟩ := x
 have HB_0 := LH ((Below.refl w.heap.size w).alloc (Nat.le_refl _) (.cells #[.int .i64 kdN, .string (str flN), .string (str txN), .int .i64 xnN, .bool laN, .bool lbN, .string (str lcN), .bool raN, .bool rbN, .string (str rcN), .slice oaN onN ocN, .slice kaN knN kcN] 27))
 have HE_0 := LH (hE.below HB_0.out)
 have HN_0 := LH (Blk.new w 27 #[.int .i64 kdN, .string (str flN), .string (str txN), .int .i64 xnN, .bool laN, .bool lbN, .string (str lcN), .bool raN, .bool rbN, .string (str rcN), .slice oaN onN ocN, .slice kaN knN kcN])
 have HX_0 := LH (hx.belowW HB_0.out)
 have HKB := LH hbk; have HG := LH hg
 have HCK := LH (chkN_yes hg)
 obtain ⟨sz, hsz⟩ : ∃ sz, sizeN t = sz := ⟨_, rfl⟩
 have HSZ := LH hsz
 clear hx hE hbk hg hsz
 obtain ⟨fs, hfs⟩ : ∃ fs, str (formN (canonN t)) = fs := ⟨_, rfl⟩
 obtain ⟨d, hnd⟩ : ∃ d, nestN (canonN t) = d := ⟨_, rfl⟩
 obtain ⟨c, hcc⟩ : ∃ c, canonN t = c := ⟨_, rfl⟩
 rw [hcc] at hfs hnd
 have HFS := LH hfs; have HND := LH hnd; have HCC := LH hcc
 clear hfs hnd hcc
 unfold NV.val
 simp only []
 go_enter Tryd.func12, Tryd.ntmps12
 have HCALL := LH (rcheck_as HCK.out HX_0.out HKB.out)
 unfold NV.val at HCALL
 simp only [] at HCALL
 go_wp2_with fail
 generalize (w.alloc (.cells #[.int .i64 kdN, .string (str flN), .string (str txN), .int .i64 xnN, .bool laN, .bool lbN, .string (str lcN), .bool raN, .bool rbN, .string (str rcN), .slice oaN onN ocN, .slice kaN knN kcN] 27)) = w0 at *
 refine HCALL.out.mono ?_
 rintro e w1 ⟨rfl, hb⟩
 clear HCALL
 have HB_1 := LH (HB_0.out.trans (hb.mono HB_0.out.size))
 have HE_1 := LH (HE_0.out.below hb)
 have HN_1 := LH (HN_0.out.belowW hb)
 have HX_1 := LH (HX_0.out.belowW hb)
 clear HB_0 HE_0 HN_0 HX_0
 clear hb
 have nzz := HN_1.out
 obtain ⟨n0, n1, n2, n3, n4, n5, n6, n7, n8, n9, n10, n11, -, -, -, -, -, -, -, -, -, -, -, -, ln⟩ := blk12 nzz
 clear nzz
 go_wp2_with fail
 have HSF := LH (fun (W : World) (hW : Below w1.heap.size w1 W) => (show W.cell? ⟨w.heap.size, 0, none⟩ = some (.int .i64 kdN) ∧ W.cell? ⟨w.heap.size, 1, none⟩ = some (.string (str flN)) ∧ W.cell? ⟨w.heap.size, 2, none⟩ = some (.string (str txN)) ∧ W.cell? ⟨w.heap.size, 3, none⟩ = some (.int .i64 xnN) ∧ W.cell? ⟨w.heap.size, 4, none⟩ = some (.bool laN) ∧ W.cell? ⟨w.heap.size, 5, none⟩ = some (.bool lbN) ∧ W.cell? ⟨w.heap.size, 6, none⟩ = some (.string (str lcN)) ∧ W.cell? ⟨w.heap.size, 7, none⟩ = some (.bool raN) ∧ W.cell? ⟨w.heap.size, 8, none⟩ = some (.bool rbN) ∧ W.cell? ⟨w.heap.size, 9, none⟩ = some (.string (str rcN)) ∧ W.cell? ⟨w.heap.size, 10, none⟩ = some (.slice oaN onN ocN) ∧ W.cell? ⟨w.heap.size, 11, none⟩ = some (.slice kaN knN kcN) ∧ Below w1.heap.size w1 W from ⟨(HN_1.out.belowW hW).cell 0, (HN_1.out.belowW hW).cell 1, (HN_1.out.belowW hW).cell 2, (HN_1.out.belowW hW).cell 3, (HN_1.out.belowW hW).cell 4, (HN_1.out.belowW hW).cell 5, (HN_1.out.belowW hW).cell 6, (HN_1.out.belowW hW).cell 7, (HN_1.out.belowW hW).cell 8, (HN_1.out.belowW hW).cell 9, (HN_1.out.belowW hW).cell 10, (HN_1.out.belowW hW).cell 11, hW⟩))
 have HAR0 := LH (fun (W : World) (hW : Below w1.heap.size w1 W) => (show Calls Tryd.prog 17 #[.agg #[.int .i64 kdN, .string (str flN), .string (str txN), .int .i64 xnN, .bool laN, .bool lbN, .string (str lcN), .bool raN, .bool rbN, .string (str rcN), .slice oaN onN ocN, .slice kaN knN kcN]] W fun e w' => e = .returned .nilIface ∧ Below w1.heap.size w1 w' from ((pcheck_yes HG.out (HX_1.out.belowW hW) HKB.out (HE_1.out.below hW)).mono fun e w' h => ⟨h.1, hW.trans (h.2.mono hW.size)⟩)))
 have HAR1 := LH (fun (W : World) (hW : Below w1.heap.size w1 W) => (show Calls Tryd.prog 27 #[.nilIface] W fun e w' => e = .returned (.int .i64 0) ∧ Below w1.heap.size w1 w' from ((num_nil W).mono fun e w' h => ⟨h.1, hW.trans (h.2.mono hW.size)⟩)))
 have HAR2 := LH (fun (W : World) (hW : Below w1.heap.size w1 W) => (show Calls Tryd.prog 18 #[.agg #[.int .i64 kdN, .string (str flN), .string (str txN), .int .i64 xnN, .bool laN, .bool lbN, .string (str lcN), .bool raN, .bool rbN, .string (str rcN), .slice oaN onN ocN, .slice kaN knN kcN]] W fun e w' => e = .returned (.int .i64 (sz : Int)) ∧ Below w1.heap.size w1 w' from ((psize_as HSZ.out (HX_1.out.belowW hW) HKB.out).mono fun e w' h => ⟨h.1, hW.trans (h.2.mono hW.size)⟩)))
 have HAR3 := LH (fun (W : World) (hW : Below w1.heap.size w1 W) => (show Calls Tryd.prog 30 #[.agg #[.int .i64 kdN, .string (str flN), .string (str txN), .int .i64 xnN, .bool laN, .bool lbN, .string (str lcN), .bool raN, .bool rbN, .string (str rcN), .slice oaN onN ocN, .slice kaN knN kcN]] W fun e w' => e = .returned (.int .i64 (sz : Int)) ∧ Below w1.heap.size w1 w' from ((rsize_as HSZ.out (HX_1.out.belowW hW) HKB.out).mono fun e w' h => ⟨h.1, hW.trans (h.2.mono hW.size)⟩)))

 go_region_held3 (fun W => W.cell? ⟨w.heap.size, 0, none⟩ = some (.int .i64 kdN) ∧ W.cell? ⟨w.heap.size, 1, none⟩ = some (.string (str flN)) ∧ W.cell? ⟨w.heap.size, 2, none⟩ = some (.string (str txN)) ∧ W.cell? ⟨w.heap.size, 3, none⟩ = some (.int .i64 xnN) ∧ W.cell? ⟨w.heap.size, 4, none⟩ = some (.bool laN) ∧ W.cell? ⟨w.heap.size, 5, none⟩ = some (.bool lbN) ∧ W.cell? ⟨w.heap.size, 6, none⟩ = some (.string (str lcN)) ∧ W.cell? ⟨w.heap.size, 7, none⟩ = some (.bool raN) ∧ W.cell? ⟨w.heap.size, 8, none⟩ = some (.bool rbN) ∧ W.cell? ⟨w.heap.size, 9, none⟩ = some (.string (str rcN)) ∧ W.cell? ⟨w.heap.size, 10, none⟩ = some (.slice oaN onN ocN) ∧ W.cell? ⟨w.heap.size, 11, none⟩ = some (.slice kaN knN kcN) ∧ Below w1.heap.size w1 W) (exact HSF.out _ (by repeat (first | assumption | exact Below.refl _ _ | with_reducible refine Below.drew ?_))) (first | ((with_reducible refine (HAR0.out _ ?_).mono ?_); (repeat (first | assumption | exact Below.refl _ _ | with_reducible refine Below.drew ?_)); (rintro e w2 ⟨rfl, hk0⟩)) | ((with_reducible refine (HAR1.out _ ?_).mono ?_); (repeat (first | assumption | exact Below.refl _ _ | with_reducible refine Below.drew ?_)); (rintro e w2 ⟨rfl, hk1⟩)) | ((with_reducible refine (HAR2.out _ ?_).mono ?_); (repeat (first | assumption | exact Below.refl _ _ | with_reducible refine Below.drew ?_)); (rintro e w2 ⟨rfl, hk2⟩)) | ((with_reducible refine (HAR3.out _ ?_).mono ?_); (repeat (first | assumption | exact Below.refl _ _ | with_reducible refine Below.drew ?_)); (rintro e w2 ⟨rfl, hk3⟩)))
 clear n0 n1 n2 n3 n4 n5 n6 n7 n8 n9 n10 n11 ln
 rename_i hfin
 have hb : Below w1.heap.size w1 w2 := hfin.2.2.2.2.2.2.2.2.2.2.2.2
 clear hfin HSF HAR0 HAR1 HAR2 HAR3
 have HB_2 := LH (HB_1.out.trans (hb.mono HB_1.out.size))
 have HE_2 := LH (HE_1.out.below hb)
 have HN_2 := LH (HN_1.out.belowW hb)
 have HX_2 := LH (HX_1.out.belowW hb)
 clear HB_1 HE_1 HN_1 HX_1
 clear hb
 have nzz := HN_2.out
 obtain ⟨n0, n1, n2, n3, n4, n5, n6, n7, n8, n9, n10, n11, -, -, -, -, -, -, -, -, -, -, -, -, ln⟩ := blk12 nzz
 clear nzz
 have HCALL := LH (pcanon_as HG.out HCC.out HX_2.out HKB.out HE_2.out)
 unfold NV.val at HCALL
 simp only [] at HCALL
 go_wp2_with fail
 refine HCALL.out.mono ?_
 rintro e w3 ⟨hb, kdC, xnC, flC, txC, laC, lbC, lcC, raC, rbC, rcC, oaC, onC, ocC, kaC, knC, kcC, rfl, hx⟩
 clear HCALL
 clear n0 n1 n2 n3 n4 n5 n6 n7 n8 n9 n10 n11 ln
 have HB_3 := LH (HB_2.out.trans (hb.mono HB_2.out.size))
 have HE_3 := LH (HE_2.out.below hb)
 have HN_3 := LH (HN_2.out.belowW hb)
 have HX_3 := LH (HX_2.out.belowW hb)
 clear HB_2 HE_2 HN_2 HX_2
 have HY_3 := LH hx
 clear hb hx
 have hba := (Below.refl w3.heap.size w3).alloc (Nat.le_refl _) (.cells #[.int .i64 kdC, .string (str flC), .string (str txC), .int .i64 xnC, .bool laC, .bool lbC, .string (str lcC), .bool raC, .bool rbC, .string (str rcC), .slice oaC onC ocC, .slice kaC knC kcC] 27)
 have HBXN := LH (Blk.new w3 27 #[.int .i64 kdC, .string (str flC), .string (str txC), .int .i64 xnC, .bool laC, .bool lbC, .string (str lcC), .bool raC, .bool rbC, .string (str rcC), .slice oaC onC ocC, .slice kaC knC kcC])
 have HB_4 := LH (HB_3.out.trans (hba.mono HB_3.out.size))
 have HE_4 := LH (HE_3.out.below hba)
 have HN_4 := LH (HN_3.out.belowW hba)
 have HX_4 := LH (HX_3.out.belowW hba)
 have HY_4 := LH (HY_3.out.belowW hba)
 clear hba HB_3 HE_3 HN_3 HX_3 HY_3
 have HC_4 := LH HBXN.out
 clear HBXN
 have nzz := HN_4.out
 obtain ⟨n0, n1, n2, n3, n4, n5, n6, n7, n8, n9, n10, n11, -, -, -, -, -, -, -, -, -, -, -, -, ln⟩ := blk12 nzz
 clear nzz
 go_wp2_with fail
 generalize (w3.alloc (.cells #[.int .i64 kdC, .string (str flC), .string (str txC), .int .i64 xnC, .bool laC, .bool lbC, .string (str lcC), .bool raC, .bool rbC, .string (str rcC), .slice oaC onC ocC, .slice kaC knC kcC] 27)) = w4 at *
 have HCALL := LH (rcanon_as HG.out HCC.out HX_4.out HKB.out)
 unfold NV.val at HCALL
 simp only [] at HCALL
 refine HCALL.out.mono ?_
 rintro e w5 ⟨hb, kdD, xnD, flD, txD, laD, lbD, lcD, raD, rbD, rcD, oaD, onD, ocD, kaD, knD, kcD, rfl, hx⟩
 clear HCALL
 clear n0 n1 n2 n3 n4 n5 n6 n7 n8 n9 n10 n11 ln
 have HB_5 := LH (HB_4.out.trans (hb.mono HB_4.out.size))
 have HE_5 := LH (HE_4.out.below hb)
 have HN_5 := LH (HN_4.out.belowW hb)
 have HX_5 := LH (HX_4.out.belowW hb)
 have HY_5 := LH (HY_4.out.belowW hb)
 have HC_5 := LH (HC_4.out.belowW hb)
 clear HB_4 HE_4 HN_4 HX_4 HY_4 HC_4
 have HZ_5 := LH hx
 clear hb hx
 have hba := (Below.refl w5.heap.size w5).alloc (Nat.le_refl _) (.cells #[.int .i64 kdD, .string (str flD), .string (str txD), .int .i64 xnD, .bool laD, .bool lbD, .string (str lcD), .bool raD, .bool rbD, .string (str rcD), .slice oaD onD ocD, .slice kaD knD kcD] 27)
 have HBXN := LH (Blk.new w5 27 #[.int .i64 kdD, .string (str flD), .string (str txD), .int .i64 xnD, .bool laD, .bool lbD, .string (str lcD), .bool raD, .bool rbD, .string (str rcD), .slice oaD onD ocD, .slice kaD knD kcD])
 have HB_6 := LH (HB_5.out.trans (hba.mono HB_5.out.size))
 have HE_6 := LH (HE_5.out.below hba)
 have HN_6 := LH (HN_5.out.belowW hba)
 have HX_6 := LH (HX_5.out.belowW hba)
 have HY_6 := LH (HY_5.out.belowW hba)
 have HC_6 := LH (HC_5.out.belowW hba)
 have HZ_6 := LH (HZ_5.out.belowW hba)
 clear hba HB_5 HE_5 HN_5 HX_5 HY_5 HC_5 HZ_5
 have HD_6 := LH HBXN.out
 clear HBXN
 go_wp2_with fail
 generalize (w5.alloc (.cells #[.int .i64 kdD, .string (str flD), .string (str txD), .int .i64 xnD, .bool laD, .bool lbD, .string (str lcD), .bool raD, .bool rbD, .string (str rcD), .slice oaD onD ocD, .slice kaD knD kcD] 27)) = w6 at *
 have HCALL := LH (num_nil w6)
 skip
 refine HCALL.out.mono ?_
 rintro e w7 ⟨rfl, hb⟩
 clear HCALL
 have HB_7 := LH (HB_6.out.trans (hb.mono HB_6.out.size))
 have HE_7 := LH (HE_6.out.below hb)
 have HN_7 := LH (HN_6.out.belowW hb)
 have HX_7 := LH (HX_6.out.belowW hb)
 have HY_7 := LH (HY_6.out.belowW hb)
 have HC_7 := LH (HC_6.out.belowW hb)
 have HZ_7 := LH (HZ_6.out.belowW hb)
 have HD_7 := LH (HD_6.out.belowW hb)
 clear HB_6 HE_6 HN_6 HX_6 HY_6 HC_6 HZ_6 HD_6
 clear hb
 have nzz := HC_7.out
 obtain ⟨n0, n1, n2, n3, n4, n5, n6, n7, n8, n9, n10, n11, -, -, -, -, -, -, -, -, -, -, -, -, ln⟩ := blk12 nzz
 clear nzz
 have dzz := HD_7.out
 obtain ⟨d0, d1, d2, d3, d4, d5, d6, d7, d8, d9, d10, d11, -, -, -, -, -, -, -, -, -, -, -, -, ld⟩ := blk12 dzz
 clear dzz
 have HCALL := LH (rsame_as (same_self c) HY_7.out HZ_7.out)
 unfold NV.val at HCALL
 simp only [] at HCALL
 go_wp2_with fail
 refine HCALL.out.mono ?_
 rintro e w8 ⟨rfl, hb⟩
 clear HCALL
 clear n0 n1 n2 n3 n4 n5 n6 n7 n8 n9 n10 n11 ln
 clear d0 d1 d2 d3 d4 d5 d6 d7 d8 d9 d10 d11 ld
 have HB_8 := LH (HB_7.out.trans (hb.mono HB_7.out.size))
 have HE_8 := LH (HE_7.out.below hb)
 have HN_8 := LH (HN_7.out.belowW hb)
 have HX_8 := LH (HX_7.out.belowW hb)
 have HY_8 := LH (HY_7.out.belowW hb)
 have HC_8 := LH (HC_7.out.belowW hb)
 have HZ_8 := LH (HZ_7.out.belowW hb)
 have HD_8 := LH (HD_7.out.belowW hb)
 clear HB_7 HE_7 HN_7 HX_7 HY_7 HC_7 HZ_7 HD_7
 clear hb
 clear HC_8
 clear HD_8
 clear HY_8
 clear HZ_8
 have nzz := HN_8.out
 obtain ⟨n0, n1, n2, n3, n4, n5, n6, n7, n8, n9, n10, n11, -, -, -, -, -, -, -, -, -, -, -, -, ln⟩ := blk12 nzz
 clear nzz
 have HCALL := LH (pnest_as HG.out HCC.out HND.out HX_8.out HKB.out HE_8.out)
 unfold NV.val at HCALL
 simp only [] at HCALL
 go_wp2_with fail
 refine HCALL.out.mono ?_
 rintro e w9 ⟨hb, rfl⟩
 clear HCALL
 clear n0 n1 n2 n3 n4 n5 n6 n7 n8 n9 n10 n11 ln
 have HB_9 := LH (HB_8.out.trans (hb.mono HB_8.out.size))
 have HE_9 := LH (HE_8.out.below hb)
 have HN_9 := LH (HN_8.out.belowW hb)
 have HX_9 := LH (HX_8.out.belowW hb)
 clear HB_8 HE_8 HN_8 HX_8
 clear hb
 have nzz := HN_9.out
 obtain ⟨n0, n1, n2, n3, n4, n5, n6, n7, n8, n9, n10, n11, -, -, -, -, -, -, -, -, -, -, -, -, ln⟩ := blk12 nzz
 clear nzz
 have HCALL := LH (rnest_as HG.out HCC.out HND.out HX_9.out HKB.out HE_9.out)
 unfold NV.val at HCALL
 simp only [] at HCALL
 go_wp2_with fail
 refine HCALL.out.mono ?_
 rintro e w10 ⟨hb, rfl⟩
 clear HCALL
 clear n0 n1 n2 n3 n4 n5 n6 n7 n8 n9 n10 n11 ln
 have HB_10 := LH (HB_9.out.trans (hb.mono HB_9.out.size))
 have HE_10 := LH (HE_9.out.below hb)
 have HN_10 := LH (HN_9.out.belowW hb)
 have HX_10 := LH (HX_9.out.belowW hb)
 clear HB_9 HE_9 HN_9 HX_9
 clear hb
 have HCALL := LH (num_nil w10)
 go_wp2_with fail
 refine HCALL.out.mono ?_
 rintro e w11 ⟨rfl, hb⟩
 clear HCALL
 have HB_11 := LH (HB_10.out.trans (hb.mono HB_10.out.size))
 have HE_11 := LH (HE_10.out.below hb)
 have HN_11 := LH (HN_10.out.belowW hb)
 have HX_11 := LH (HX_10.out.belowW hb)
 clear HB_10 HE_10 HN_10 HX_10
 clear hb
 have nzz := HN_11.out
 obtain ⟨n0, n1, n2, n3, n4, n5, n6, n7, n8, n9, n10, n11, -, -, -, -, -, -, -, -, -, -, -, -, ln⟩ := blk12 nzz
 clear nzz
 have HCALL := LH (pprint_as HG.out HCC.out HFS.out HX_11.out HKB.out HE_11.out)
 unfold NV.val at HCALL
 simp only [] at HCALL
 go_wp2_with fail
 refine HCALL.out.mono ?_
 rintro e w12 ⟨hb, rfl⟩
 clear HCALL
 clear n0 n1 n2 n3 n4 n5 n6 n7 n8 n9 n10 n11 ln
 have HB_12 := LH (HB_11.out.trans (hb.mono HB_11.out.size))
 have HE_12 := LH (HE_11.out.below hb)
 have HN_12 := LH (HN_11.out.belowW hb)
 have HX_12 := LH (HX_11.out.belowW hb)
 clear HB_11 HE_11 HN_11 HX_11
 clear hb
 have nzz := HN_12.out
 obtain ⟨n0, n1, n2, n3, n4, n5, n6, n7, n8, n9, n10, n11, -, -, -, -, -, -, -, -, -, -, -, -, ln⟩ := blk12 nzz
 clear nzz
 have HCALL := LH (rprint_as HG.out HCC.out HFS.out HX_12.out HKB.out HE_12.out)
 unfold NV.val at HCALL
 simp only [] at HCALL
 go_wp2_with fail
 refine HCALL.out.mono ?_
 rintro e w13 ⟨hb, rfl⟩
 clear HCALL
 clear n0 n1 n2 n3 n4 n5 n6 n7 n8 n9 n10 n11 ln
 have HB_13 := LH (HB_12.out.trans (hb.mono HB_12.out.size))
 have HE_13 := LH (HE_12.out.below hb)
 have HN_13 := LH (HN_12.out.belowW hb)
 have HX_13 := LH (HX_12.out.belowW hb)
 clear HB_12 HE_12 HN_12 HX_12
 clear hb
 have HCALL := LH (num_nil w13)
 go_wp2_with fail
 refine HCALL.out.mono ?_
 rintro e w14 ⟨rfl, hb⟩
 clear HCALL
 have HB_14 := LH (HB_13.out.trans (hb.mono HB_13.out.size))
 have HE_14 := LH (HE_13.out.below hb)
 have HN_14 := LH (HN_13.out.belowW hb)
 have HX_14 := LH (HX_13.out.belowW hb)
 clear HB_13 HE_13 HN_13 HX_13
 clear hb
 go_wp2
 go_ret
 exact ⟨rfl, HB_14.out⟩
theorem oneNo15 (t : Nd) (hg : goodN t = false) (w : World) (ea : List Addr) (F : Nat → Prop) (x : NV) (hx : NdR w F x t) (hbk : bkN t ≤ 300000000000) (hE : LawEnv w ea) :
  Calls Tryd.prog 12 #[x.val] w fun e w' => e = .returned (.bool true) ∧ Below w.heap.size w w' := by
 obtain ⟨kdN, flN, txN, xnN, ⟨laN, lbN, lcN⟩, ⟨raN, rbN, rcN⟩, ⟨oaN, onN, ocN⟩, ⟨kaN, knN, kcN⟩⟩ := x
 have HB_0 := LH ((Below.refl w.heap.size w).alloc (Nat.le_refl _) (.cells #[.int .i64 kdN, .string (str flN), .string (str txN), .int .i64 xnN, .bool laN, .bool lbN, .string (str lcN), .bool raN, .bool rbN, .string (str rcN), .slice oaN onN ocN, .slice kaN knN kcN] 27))
 have HE_0 := LH (hE.below HB_0.out)
 have HN_0 := LH (Blk.new w 27 #[.int .i64 kdN, .string (str flN), .string (str txN), .int .i64 xnN, .bool laN, .bool lbN, .string (str lcN), .bool raN, .bool rbN, .string (str rcN), .slice oaN onN ocN, .slice kaN knN kcN])
 have HX_0 := LH (hx.belowW HB_0.out)
 have HKB := LH hbk; have HG := LH hg
 have HCK := LH (chkN_no hg)
 obtain ⟨sz, hsz⟩ : ∃ sz, sizeN t = sz := ⟨_, rfl⟩
 have HSZ := LH hsz
 clear hx hE hbk hg hsz
 unfold NV.val
 simp only []
 go_enter Tryd.func12, Tryd.ntmps12
 have HCALL := LH (rcheck_as HCK.out HX_0.out HKB.out)
 unfold NV.val at HCALL
 simp only [] at HCALL
 go_wp2_with fail
 generalize (w.alloc (.cells #[.int .i64 kdN, .string (str flN), .string (str txN), .int .i64 xnN, .bool laN, .bool lbN, .string (str lcN), .bool raN, .bool rbN, .string (str rcN), .slice oaN onN ocN, .slice kaN knN kcN] 27)) = w0 at *
 refine HCALL.out.mono ?_
 rintro e w1 ⟨rfl, hb⟩
 clear HCALL
 have HB_1 := LH (HB_0.out.trans (hb.mono HB_0.out.size))
 have HE_1 := LH (HE_0.out.below hb)
 have HN_1 := LH (HN_0.out.belowW hb)
 have HX_1 := LH (HX_0.out.belowW hb)
 clear HB_0 HE_0 HN_0 HX_0
 clear hb
 have nzz := HN_1.out
 obtain ⟨n0, n1, n2, n3, n4, n5, n6, n7, n8, n9, n10, n11, -, -, -, -, -, -, -, -, -, -, -, -, ln⟩ := blk12 nzz
 clear nzz
 go_wp2_with fail
 have HSF := LH (fun (W : World) (hW : Below w1.heap.size w1 W) => (show W.cell? ⟨w.heap.size, 0, none⟩ = some (.int .i64 kdN) ∧ W.cell? ⟨w.heap.size, 1, none⟩ = some (.string (str flN)) ∧ W.cell? ⟨w.heap.size, 2, none⟩ = some (.string (str txN)) ∧ W.cell? ⟨w.heap.size, 3, none⟩ = some (.int .i64 xnN) ∧ W.cell? ⟨w.heap.size, 4, none⟩ = some (.bool laN) ∧ W.cell? ⟨w.heap.size, 5, none⟩ = some (.bool lbN) ∧ W.cell? ⟨w.heap.size, 6, none⟩ = some (.string (str lcN)) ∧ W.cell? ⟨w.heap.size, 7, none⟩ = some (.bool raN) ∧ W.cell? ⟨w.heap.size, 8, none⟩ = some (.bool rbN) ∧ W.cell? ⟨w.heap.size, 9, none⟩ = some (.string (str rcN)) ∧ W.cell? ⟨w.heap.size, 10, none⟩ = some (.slice oaN onN ocN) ∧ W.cell? ⟨w.heap.size, 11, none⟩ = some (.slice kaN knN kcN) ∧ Below w1.heap.size w1 W from ⟨(HN_1.out.belowW hW).cell 0, (HN_1.out.belowW hW).cell 1, (HN_1.out.belowW hW).cell 2, (HN_1.out.belowW hW).cell 3, (HN_1.out.belowW hW).cell 4, (HN_1.out.belowW hW).cell 5, (HN_1.out.belowW hW).cell 6, (HN_1.out.belowW hW).cell 7, (HN_1.out.belowW hW).cell 8, (HN_1.out.belowW hW).cell 9, (HN_1.out.belowW hW).cell 10, (HN_1.out.belowW hW).cell 11, hW⟩))
 have HAR0 := LH (fun (W : World) (hW : Below w1.heap.size w1 W) => (show Calls Tryd.prog 17 #[.agg #[.int .i64 kdN, .string (str flN), .string (str txN), .int .i64 xnN, .bool laN, .bool lbN, .string (str lcN), .bool raN, .bool rbN, .string (str rcN), .slice oaN onN ocN, .slice kaN knN kcN]] W fun e w' => e = .returned (errI ea 17) ∧ Below w1.heap.size w1 w' from ((pcheck_no HG.out (HX_1.out.belowW hW) HKB.out (HE_1.out.below hW)).mono fun e w' h => ⟨h.1, hW.trans (h.2.mono hW.size)⟩)))
 have HAR1 := LH (fun (W : World) (hW : Below w1.heap.size w1 W) => (show Calls Tryd.prog 27 #[errI ea 17] W fun e w' => e = .returned (.int .i64 18) ∧ Below w1.heap.size w1 w' from ((num_17 ea W (HE_1.out.below hW)).mono fun e w' h => ⟨h.1, hW.trans (h.2.mono hW.size)⟩)))
 have HAR2 := LH (fun (W : World) (hW : Below w1.heap.size w1 W) => (show Calls Tryd.prog 18 #[.agg #[.int .i64 kdN, .string (str flN), .string (str txN), .int .i64 xnN, .bool laN, .bool lbN, .string (str lcN), .bool raN, .bool rbN, .string (str rcN), .slice oaN onN ocN, .slice kaN knN kcN]] W fun e w' => e = .returned (.int .i64 (sz : Int)) ∧ Below w1.heap.size w1 w' from ((psize_as HSZ.out (HX_1.out.belowW hW) HKB.out).mono fun e w' h => ⟨h.1, hW.trans (h.2.mono hW.size)⟩)))
 have HAR3 := LH (fun (W : World) (hW : Below w1.heap.size w1 W) => (show Calls Tryd.prog 30 #[.agg #[.int .i64 kdN, .string (str flN), .string (str txN), .int .i64 xnN, .bool laN, .bool lbN, .string (str lcN), .bool raN, .bool rbN, .string (str rcN), .slice oaN onN ocN, .slice kaN knN kcN]] W fun e w' => e = .returned (.int .i64 (sz : Int)) ∧ Below w1.heap.size w1 w' from ((rsize_as HSZ.out (HX_1.out.belowW hW) HKB.out).mono fun e w' h => ⟨h.1, hW.trans (h.2.mono hW.size)⟩)))

 go_region_held3 (fun W => W.cell? ⟨w.heap.size, 0, none⟩ = some (.int .i64 kdN) ∧ W.cell? ⟨w.heap.size, 1, none⟩ = some (.string (str flN)) ∧ W.cell? ⟨w.heap.size, 2, none⟩ = some (.string (str txN)) ∧ W.cell? ⟨w.heap.size, 3, none⟩ = some (.int .i64 xnN) ∧ W.cell? ⟨w.heap.size, 4, none⟩ = some (.bool laN) ∧ W.cell? ⟨w.heap.size, 5, none⟩ = some (.bool lbN) ∧ W.cell? ⟨w.heap.size, 6, none⟩ = some (.string (str lcN)) ∧ W.cell? ⟨w.heap.size, 7, none⟩ = some (.bool raN) ∧ W.cell? ⟨w.heap.size, 8, none⟩ = some (.bool rbN) ∧ W.cell? ⟨w.heap.size, 9, none⟩ = some (.string (str rcN)) ∧ W.cell? ⟨w.heap.size, 10, none⟩ = some (.slice oaN onN ocN) ∧ W.cell? ⟨w.heap.size, 11, none⟩ = some (.slice kaN knN kcN) ∧ Below w1.heap.size w1 W) (exact HSF.out _ (by repeat (first | assumption | exact Below.refl _ _ | with_reducible refine Below.drew ?_))) (first | ((with_reducible refine (HAR0.out _ ?_).mono ?_); (repeat (first | assumption | exact Below.refl _ _ | with_reducible refine Below.drew ?_)); (rintro e w2 ⟨rfl, hk0⟩)) | ((with_reducible refine (HAR1.out _ ?_).mono ?_); (repeat (first | assumption | exact Below.refl _ _ | with_reducible refine Below.drew ?_)); (rintro e w2 ⟨rfl, hk1⟩)) | ((with_reducible refine (HAR2.out _ ?_).mono ?_); (repeat (first | assumption | exact Below.refl _ _ | with_reducible refine Below.drew ?_)); (rintro e w2 ⟨rfl, hk2⟩)) | ((with_reducible refine (HAR3.out _ ?_).mono ?_); (repeat (first | assumption | exact Below.refl _ _ | with_reducible refine Below.drew ?_)); (rintro e w2 ⟨rfl, hk3⟩)))
 clear n0 n1 n2 n3 n4 n5 n6 n7 n8 n9 n10 n11 ln
 rename_i hfin
 have hb : Below w1.heap.size w1 w2 := hfin.2.2.2.2.2.2.2.2.2.2.2.2
 clear hfin HSF HAR0 HAR1 HAR2 HAR3
 have HB_2 := LH (HB_1.out.trans (hb.mono HB_1.out.size))
 have HE_2 := LH (HE_1.out.below hb)
 have HN_2 := LH (HN_1.out.belowW hb)
 have HX_2 := LH (HX_1.out.belowW hb)
 clear HB_1 HE_1 HN_1 HX_1
 clear hb
 have nzz := HN_2.out
 obtain ⟨n0, n1, n2, n3, n4, n5, n6, n7, n8, n9, n10, n11, -, -, -, -, -, -, -, -, -, -, -, -, ln⟩ := blk12 nzz
 clear nzz
 have HCALL := LH (pcanonw_no t HG.out w2 _ _ ea 17 HX_2.out (Nat.le_trans HKB.out (by decide)) HE_2.out.pr.asks HE_2.out.node)
 unfold NV.val at HCALL
 simp only [] at HCALL
 go_wp2_with fail
 refine HCALL.out.mono ?_
 rintro e w3 ⟨hb, rfl⟩
 clear HCALL
 clear n0 n1 n2 n3 n4 n5 n6 n7 n8 n9 n10 n11 ln
 have HB_3 := LH (HB_2.out.trans (hb.mono HB_2.out.size))
 have HE_3 := LH (HE_2.out.below hb)
 have HN_3 := LH (HN_2.out.belowW hb)
 have HX_3 := LH (HX_2.out.belowW hb)
 clear HB_2 HE_2 HN_2 HX_2
 clear hb
 have hba := (Below.refl w3.heap.size w3).alloc (Nat.le_refl _) (.cells nvZero 27)
 have HBXN := LH (Blk.new w3 27 nvZero)
 have HB_4 := LH (HB_3.out.trans (hba.mono HB_3.out.size))
 have HE_4 := LH (HE_3.out.below hba)
 have HN_4 := LH (HN_3.out.belowW hba)
 have HX_4 := LH (HX_3.out.belowW hba)
 clear hba HB_3 HE_3 HN_3 HX_3
 have HC_4 := LH HBXN.out
 clear HBXN
 have nzz := HN_4.out
 obtain ⟨n0, n1, n2, n3, n4, n5, n6, n7, n8, n9, n10, n11, -, -, -, -, -, -, -, -, -, -, -, -, ln⟩ := blk12 nzz
 clear nzz
 go_wp2_with fail
 generalize (w3.alloc (.cells nvZero 27)) = w4 at *
 have HCALL := LH (rcanonw_no t HG.out w4 _ _ HX_4.out HKB.out)
 unfold NV.val at HCALL
 simp only [] at HCALL
 skip
 refine HCALL.out.mono ?_
 rintro e w5 ⟨hb, rfl⟩
 clear HCALL
 clear n0 n1 n2 n3 n4 n5 n6 n7 n8 n9 n10 n11 ln
 have HB_5 := LH (HB_4.out.trans (hb.mono HB_4.out.size))
 have HE_5 := LH (HE_4.out.below hb)
 have HN_5 := LH (HN_4.out.belowW hb)
 have HX_5 := LH (HX_4.out.belowW hb)
 have HC_5 := LH (HC_4.out.belowW hb)
 clear HB_4 HE_4 HN_4 HX_4 HC_4
 clear hb
 have hba := (Below.refl w5.heap.size w5).alloc (Nat.le_refl _) (.cells nvZero 27)
 have HBXN := LH (Blk.new w5 27 nvZero)
 have HB_6 := LH (HB_5.out.trans (hba.mono HB_5.out.size))
 have HE_6 := LH (HE_5.out.below hba)
 have HN_6 := LH (HN_5.out.belowW hba)
 have HX_6 := LH (HX_5.out.belowW hba)
 have HC_6 := LH (HC_5.out.belowW hba)
 clear hba HB_5 HE_5 HN_5 HX_5 HC_5
 have HD_6 := LH HBXN.out
 clear HBXN
 go_wp2_with fail
 generalize (w5.alloc (.cells nvZero 27)) = w6 at *
 have HCALL := LH (num_17 ea w6 HE_6.out)
 skip
 refine HCALL.out.mono ?_
 rintro e w7 ⟨rfl, hb⟩
 clear HCALL
 have HB_7 := LH (HB_6.out.trans (hb.mono HB_6.out.size))
 have HE_7 := LH (HE_6.out.below hb)
 have HN_7 := LH (HN_6.out.belowW hb)
 have HX_7 := LH (HX_6.out.belowW hb)
 have HC_7 := LH (HC_6.out.belowW hb)
 have HD_7 := LH (HD_6.out.belowW hb)
 clear HB_6 HE_6 HN_6 HX_6 HC_6 HD_6
 clear hb
 have nzz := HC_7.out
 obtain ⟨n0, n1, n2, n3, n4, n5, n6, n7, n8, n9, n10, n11, -, -, -, -, -, -, -, -, -, -, -, -, ln⟩ := blk12 nzz
 clear nzz
 have dzz := HD_7.out
 obtain ⟨d0, d1, d2, d3, d4, d5, d6, d7, d8, d9, d10, d11, -, -, -, -, -, -, -, -, -, -, -, -, ld⟩ := blk12 dzz
 clear dzz
 have HCALL := LH (zero_same w7)
 go_wp2_with fail
 refine HCALL.out.mono ?_
 rintro e w8 ⟨rfl, hb⟩
 clear HCALL
 clear n0 n1 n2 n3 n4 n5 n6 n7 n8 n9 n10 n11 ln
 clear d0 d1 d2 d3 d4 d5 d6 d7 d8 d9 d10 d11 ld
 have HB_8 := LH (HB_7.out.trans (hb.mono HB_7.out.size))
 have HE_8 := LH (HE_7.out.below hb)
 have HN_8 := LH (HN_7.out.belowW hb)
 have HX_8 := LH (HX_7.out.belowW hb)
 have HC_8 := LH (HC_7.out.belowW hb)
 have HD_8 := LH (HD_7.out.belowW hb)
 clear HB_7 HE_7 HN_7 HX_7 HC_7 HD_7
 clear hb
 clear HC_8
 clear HD_8
 have nzz := HN_8.out
 obtain ⟨n0, n1, n2, n3, n4, n5, n6, n7, n8, n9, n10, n11, -, -, -, -, -, -, -, -, -, -, -, -, ln⟩ := blk12 nzz
 clear nzz
 have HCALL := LH (pnestw_no t HG.out w8 _ _ ea 17 HX_8.out (Nat.le_trans HKB.out (by decide)) HE_8.out.pr HE_8.out.node)
 unfold NV.val at HCALL
 simp only [] at HCALL
 go_wp2_with fail
 refine HCALL.out.mono ?_
 rintro e w9 ⟨hb, rfl⟩
 clear HCALL
 clear n0 n1 n2 n3 n4 n5 n6 n7 n8 n9 n10 n11 ln
 have HB_9 := LH (HB_8.out.trans (hb.mono HB_8.out.size))
 have HE_9 := LH (HE_8.out.below hb)
 have HN_9 := LH (HN_8.out.belowW hb)
 have HX_9 := LH (HX_8.out.belowW hb)
 clear HB_8 HE_8 HN_8 HX_8
 clear hb
 have nzz := HN_9.out
 obtain ⟨n0, n1, n2, n3, n4, n5, n6, n7, n8, n9, n10, n11, -, -, -, -, -, -, -, -, -, -, -, -, ln⟩ := blk12 nzz
 clear nzz
 have HCALL := LH (rnestw_no t HG.out w9 _ _ HX_9.out HKB.out HE_9.out.pr.asks)
 unfold NV.val at HCALL
 simp only [] at HCALL
 go_wp2_with fail
 refine HCALL.out.mono ?_
 rintro e w10 ⟨hb, rfl⟩
 clear HCALL
 clear n0 n1 n2 n3 n4 n5 n6 n7 n8 n9 n10 n11 ln
 have HB_10 := LH (HB_9.out.trans (hb.mono HB_9.out.size))
 have HE_10 := LH (HE_9.out.below hb)
 have HN_10 := LH (HN_9.out.belowW hb)
 have HX_10 := LH (HX_9.out.belowW hb)
 clear HB_9 HE_9 HN_9 HX_9
 clear hb
 have HCALL := LH (num_17 ea w10 HE_10.out)
 go_wp2_with fail
 refine HCALL.out.mono ?_
 rintro e w11 ⟨rfl, hb⟩
 clear HCALL
 have HB_11 := LH (HB_10.out.trans (hb.mono HB_10.out.size))
 have HE_11 := LH (HE_10.out.below hb)
 have HN_11 := LH (HN_10.out.belowW hb)
 have HX_11 := LH (HX_10.out.belowW hb)
 clear HB_10 HE_10 HN_10 HX_10
 clear hb
 have nzz := HN_11.out
 obtain ⟨n0, n1, n2, n3, n4, n5, n6, n7, n8, n9, n10, n11, -, -, -, -, -, -, -, -, -, -, -, -, ln⟩ := blk12 nzz
 clear nzz
 have HCALL := LH (pprint_no t HG.out w11 _ _ ea 17 HX_11.out (Nat.le_trans HKB.out (by decide)) HE_11.out.pr HE_11.out.node)
 unfold NV.val at HCALL
 simp only [] at HCALL
 go_wp2_with fail
 refine HCALL.out.mono ?_
 rintro e w12 ⟨hb, rfl⟩
 clear HCALL
 clear n0 n1 n2 n3 n4 n5 n6 n7 n8 n9 n10 n11 ln
 have HB_12 := LH (HB_11.out.trans (hb.mono HB_11.out.size))
 have HE_12 := LH (HE_11.out.below hb)
 have HN_12 := LH (HN_11.out.belowW hb)
 have HX_12 := LH (HX_11.out.belowW hb)
 clear HB_11 HE_11 HN_11 HX_11
 clear hb
 have nzz := HN_12.out
 obtain ⟨n0, n1, n2, n3, n4, n5, n6, n7, n8, n9, n10, n11, -, -, -, -, -, -, -, -, -, -, -, -, ln⟩ := blk12 nzz
 clear nzz
 have HCALL := LH (rprintw_no t HG.out w12 _ _ HX_12.out HKB.out HE_12.out.pr.asks)
 unfold NV.val at HCALL
 simp only [] at HCALL
 go_wp2_with fail
 refine HCALL.out.mono ?_
 rintro e w13 ⟨hb, rfl⟩
 clear HCALL
 clear n0 n1 n2 n3 n4 n5 n6 n7 n8 n9 n10 n11 ln
 have HB_13 := LH (HB_12.out.trans (hb.mono HB_12.out.size))
 have HE_13 := LH (HE_12.out.below hb)
 have HN_13 := LH (HN_12.out.belowW hb)
 have HX_13 := LH (HX_12.out.belowW hb)
 clear HB_12 HE_12 HN_12 HX_12
 clear hb
 have HCALL := LH (num_17 ea w13 HE_13.out)
 go_wp2_with fail
 refine HCALL.out.mono ?_
 rintro e w14 ⟨rfl, hb⟩
 clear HCALL
 have HB_14 := LH (HB_13.out.trans (hb.mono HB_13.out.size))
 have HE_14 := LH (HE_13.out.below hb)
 have HN_14 := LH (HN_13.out.belowW hb)
 have HX_14 := LH (HX_13.out.belowW hb)
 clear HB_13 HE_13 HN_13 HX_13
 clear hb
 go_wp2
 go_ret
 exact ⟨rfl, HB_14.out⟩
theorem oneAny15 (t : Nd) (w : World) (ea : List Addr) (F : Nat → Prop) (x : NV) (hx : NdR w F x t) (hbk : bkN t ≤ 300000000000) (hE : LawEnv w ea) :
  Calls Tryd.prog 12 #[x.val] w fun e w' => e = .returned (.bool true) ∧ Below w.heap.size w w' := by
 cases hg : goodN t with
 | true => exact oneYes15 t hg w ea F x hx hbk hE
 | false => exact oneNo15 t hg w ea F x hx hbk hE
end Go.Proofs.YthcldpminmhgkaaDoor
end
