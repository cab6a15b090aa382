/- Merged for a claim by shake.py: Jas -/
import Derived.Test.YthcldpminmhgkaaDoorKrA
import Derived.Test.YthcldpminmhgkaaDoorKr21
import Derived.Test.YthcldpminmhgkaaDoorKr35
import Derived.Test.YthcldpminmhgkaaDoorKr39
import Derived.Test.YthcldpminmhgkaaDoorKr40
set_option maxRecDepth 100000
set_option maxHeartbeats 4000000
set_option linter.unusedSimpArgs false
set_option linter.unusedVariables false
section
namespace Go.Proofs.YthcldpminmhgkaaDoor
open Go.RowKit
theorem rcanonw_yes (t : Nd) (hg : goodN t = true) (w : World) (F : Nat → Prop) (x : NV) (hx : NdR w F x t) (hbk : bkN t ≤ 300000000000) :
  Calls Tryd.prog 22 #[x.val] w (TrE2 (canonN t) (.int .i64 0) w) := by
 have HX := LH hx
 clear hx
 obtain ⟨kd, fl, tx, xn, ⟨la, lb, lc⟩, ⟨ra, rb, rc⟩, ⟨oa, on, oc⟩, ⟨ka, kn, kc⟩⟩ := x
 have HB1 := LH (((Below.refl w.heap.size w).alloc (Nat.le_refl _) (.cells #[.int .i64 kd, .string (str fl), .string (str tx), .int .i64 xn, .bool la, .bool lb, .string (str lc), .bool ra, .bool rb, .string (str rc), .slice oa on oc, .slice ka kn kc] 27)).alloc (by rw [World.size_alloc]; exact Nat.le_succ _) zO)
 have HN1 := LH ((Blk.new w 27 #[.int .i64 kd, .string (str fl), .string (str tx), .int .i64 xn, .bool la, .bool lb, .string (str lc), .bool ra, .bool rb, .string (str rc), .slice oa on oc, .slice ka kn kc]).alloc zO)
 have HZ1 := LH (show Blk ((w.alloc (.cells #[.int .i64 kd, .string (str fl), .string (str tx), .int .i64 xn, .bool la, .bool lb, .string (str lc), .bool ra, .bool rb, .string (str rc), .slice oa on oc, .slice ka kn kc] 27)).alloc zO) (w.heap.size + 1) 27 zA from by have h := Blk.new (w.alloc (.cells #[.int .i64 kd, .string (str fl), .string (str tx), .int .i64 xn, .bool la, .bool lb, .string (str lc), .bool ra, .bool rb, .string (str rc), .slice oa on oc, .slice ka kn kc] 27)) 27 zA; rw [World.size_alloc] at h; exact h)
 have HX1 := LH (HX.out.belowW HB1.out)
 have HC := LH (rgood_any t ((w.alloc (.cells #[.int .i64 kd, .string (str fl), .string (str tx), .int .i64 xn, .bool la, .bool lb, .string (str lc), .bool ra, .bool rb, .string (str rc), .slice oa on oc, .slice ka kn kc] 27)).alloc zO) F _ HX1.out (Nat.le_trans hbk (by decide)))
 have HK := LH (fun (W : World) (hW : NdR W F ⟨kd, fl, tx, xn, ⟨la, lb, lc⟩, ⟨ra, rb, rc⟩, ⟨oa, on, oc⟩, ⟨ka, kn, kc⟩⟩ t) => rcanon_any t W F _ hW (Nat.le_trans hbk (by decide)) hg)
 rw [hg] at HC
 unfold NV.val at HC HK ⊢
 simp only [] at HC HK
 go_enter Tryd.func22, Tryd.ntmps22
 go_wp2_with fail
 generalize ((w.alloc (.cells #[.int .i64 kd, .string (str fl), .string (str tx), .int .i64 xn, .bool la, .bool lb, .string (str lc), .bool ra, .bool rb, .string (str rc), .slice oa on oc, .slice ka kn kc] 27)).alloc zO) = w1 at *
 have nzz := HN1.out
 obtain ⟨n0, n1, n2, n3, n4, n5, n6, n7, n8, n9, n10, n11, -, -, -, -, -, -, -, -, -, -, -, -, ln⟩ := blk12 nzz
 clear nzz
 refine HC.out.mono ?_
 rintro e w2 ⟨rfl, hb2⟩
 have HB2 := LH (HB1.out.trans (hb2.mono HB1.out.size))
 have HN2 := LH (HN1.out.belowW hb2)
 have HZ2 := LH (HZ1.out.belowW hb2)
 have HX2 := LH (HX1.out.belowW hb2)
 clear hb2 n0 n1 n2 n3 n4 n5 n6 n7 n8 n9 n10 n11 ln
 have nzz := HN2.out
 obtain ⟨n0, n1, n2, n3, n4, n5, n6, n7, n8, n9, n10, n11, -, -, -, -, -, -, -, -, -, -, -, -, ln⟩ := blk12 nzz
 clear nzz
 have HKK := LH (HK.out w2 HX2.out)
 go_wp2_with fail
 refine HKK.out.mono ?_
 rintro e w3 ⟨hb3, kdq, xnq, flq, txq, laq, lbq, lcq, raq, rbq, rcq, oaq, onq, ocq, kaq, knq, kcq, rfl, hy⟩
 have HB3 := LH (HB2.out.trans (hb3.mono HB2.out.size))
 have HZ3 := LH (HZ2.out.belowW hb3)
 have hz2 := HZ2.out.lt
 have HY3 := LH (hy.mono (G := fun b => w.heap.size + 1 < b ∧ b < w3.heap.size) (fun b h => ⟨Nat.lt_of_lt_of_le hz2 h.1, h.2⟩))
 clear hb3 hy n0 n1 n2 n3 n4 n5 n6 n7 n8 n9 n10 n11 ln hz2
 have zzz := HZ3.out
 obtain ⟨z0, z1, z2, z3, z4, z5, z6, z7, z8, z9, z10, z11, fz0, fz1, fz2, fz3, fz4, fz5, fz6, fz7, fz8, fz9, fz10, fz11, lz⟩ := blk12 zzz
 clear zzz
 go_wp2
 refine bodyPost_ret (v := .tuple #[.agg #[.int .i64 kdq, .string (str flq), .string (str txq), .int .i64 xnq, .bool laq, .bool lbq, .string (str lcq), .bool raq, .bool rbq, .string (str rcq), .slice oaq onq ocq, .slice kaq knq kcq], .int .i64 0]) ?_ rfl ?_
 ·simp [results, Tryd.results22, go_sem, NV.val, lz, fz0, fz1, fz2, fz3, fz4, fz5, fz6, fz7, fz8, fz9, fz10, fz11, z0, z1, z2, z3, z4, z5, z6, z7, z8, z9, z10, z11]
 ·exact TrE2.set HB3.out (Nat.le_succ _) HY3.out
theorem rcanonw_no (t : Nd) (hg : goodN t = false) (w : World) (F : Nat → Prop) (x : NV) (hx : NdR w F x t) (hbk : bkN t ≤ 300000000000) :
  Calls Tryd.prog 22 #[x.val] w (fun e w' => Below w.heap.size w w' ∧ e = .returned (.tuple #[.agg nvZero, .int .i64 18])) := by
 have HX := LH hx
 clear hx
 obtain ⟨kd, fl, tx, xn, ⟨la, lb, lc⟩, ⟨ra, rb, rc⟩, ⟨oa, on, oc⟩, ⟨ka, kn, kc⟩⟩ := x
 have HB1 := LH (((Below.refl w.heap.size w).alloc (Nat.le_refl _) (.cells #[.int .i64 kd, .string (str fl), .string (str tx), .int .i64 xn, .bool la, .bool lb, .string (str lc), .bool ra, .bool rb, .string (str rc), .slice oa on oc, .slice ka kn kc] 27)).alloc (by rw [World.size_alloc]; exact Nat.le_succ _) zO)
 have HN1 := LH ((Blk.new w 27 #[.int .i64 kd, .string (str fl), .string (str tx), .int .i64 xn, .bool la, .bool lb, .string (str lc), .bool ra, .bool rb, .string (str rc), .slice oa on oc, .slice ka kn kc]).alloc zO)
 have HZ1 := LH (show Blk ((w.alloc (.cells #[.int .i64 kd, .string (str fl), .string (str tx), .int .i64 xn, .bool la, .bool lb, .string (str lc), .bool ra, .bool rb, .string (str rc), .slice oa on oc, .slice ka kn kc] 27)).alloc zO) (w.heap.size + 1) 27 zA from by have h := Blk.new (w.alloc (.cells #[.int .i64 kd, .string (str fl), .string (str tx), .int .i64 xn, .bool la, .bool lb, .string (str lc), .bool ra, .bool rb, .string (str rc), .slice oa on oc, .slice ka kn kc] 27)) 27 zA; rw [World.size_alloc] at h; exact h)
 have HX1 := LH (HX.out.belowW HB1.out)
 have HC := LH (rgood_any t ((w.alloc (.cells #[.int .i64 kd, .string (str fl), .string (str tx), .int .i64 xn, .bool la, .bool lb, .string (str lc), .bool ra, .bool rb, .string (str rc), .slice oa on oc, .slice ka kn kc] 27)).alloc zO) F _ HX1.out (Nat.le_trans hbk (by decide)))
 rw [hg] at HC
 unfold NV.val at HC ⊢
 simp only [] at HC
 go_enter Tryd.func22, Tryd.ntmps22
 go_wp2_with fail
 generalize ((w.alloc (.cells #[.int .i64 kd, .string (str fl), .string (str tx), .int .i64 xn, .bool la, .bool lb, .string (str lc), .bool ra, .bool rb, .string (str rc), .slice oa on oc, .slice ka kn kc] 27)).alloc zO) = w1 at *
 have nzz := HN1.out
 obtain ⟨n0, n1, n2, n3, n4, n5, n6, n7, n8, n9, n10, n11, -, -, -, -, -, -, -, -, -, -, -, -, ln⟩ := blk12 nzz
 clear nzz
 refine HC.out.mono ?_
 rintro e w2 ⟨rfl, hb2⟩
 have HB2 := LH (HB1.out.trans (hb2.mono HB1.out.size))
 have HN2 := LH (HN1.out.belowW hb2)
 have HZ2 := LH (HZ1.out.belowW hb2)
 have HX2 := LH (HX1.out.belowW hb2)
 clear hb2 n0 n1 n2 n3 n4 n5 n6 n7 n8 n9 n10 n11 ln
 have zzz := HZ2.out
 obtain ⟨z0, z1, z2, z3, z4, z5, z6, z7, z8, z9, z10, z11, fz0, fz1, fz2, fz3, fz4, fz5, fz6, fz7, fz8, fz9, fz10, fz11, lz⟩ := blk12 zzz
 clear zzz
 go_wp2
 refine bodyPost_ret (v := .tuple #[.agg nvZero, .int .i64 18]) ?_ rfl ?_
 ·simp [results, Tryd.results22, go_sem, NV.val, nvZero, lz, fz0, fz1, fz2, fz3, fz4, fz5, fz6, fz7, fz8, fz9, fz10, fz11, z0, z1, z2, z3, z4, z5, z6, z7, z8, z9, z10, z11]
 ·refine ⟨?_, rfl⟩
  repeat (first | with_reducible exact HB2.out | with_reducible refine Below.drew ?_ | with_reducible refine Below.setCell ?_ (by show w.heap.size ≤ w.heap.size + 1; exact Nat.le_succ _) _)
theorem bump_zero (t : Nd) : bump t 0 = nestN t := by unfold bump; rw [if_neg (Nat.not_lt_zero _)]; rfl
theorem brF_zero (t : Nd) (s : List UInt8) : brF (decide (levN t < 0)) s = s := by rw [decide_eq_false (Nat.not_lt_zero _)]; rfl
theorem rnest0 (t : Nd) (w : World) (F : Nat → Prop) (x : NV) (hx : NdR w F x t) (hbk : bkN t ≤ 900000000000) (hg : goodN t = true) (hA : AskEnv w) : Calls Tryd.prog 48 #[x.val, .int .i64 0] w fun e w' => e = .returned (.int .i64 (nestN t : Int)) ∧ Below w.heap.size w w' := by
 have h := rnest_any t w F x 0 hx hbk hg hA (by decide)
 rw [bump_zero] at h
 exact h
theorem rprinted0 (t : Nd) (w : World) (F : Nat → Prop) (x : NV) (hx : NdR w F x t) (hbk : bkN t ≤ 300000000000) (hg : goodN t = true) (hA : AskEnv w) : Calls Tryd.prog 49 #[x.val, .int .i64 0] w fun e w' => e = .returned (.string (str (formN t))) ∧ Below w.heap.size w w' := by
 have h := rprinted_any t w F x 0 hx hbk hg hA (by decide)
 rw [brF_zero] at h
 exact h
theorem rnestw_yes (t : Nd) (hg : goodN t = true) (w : World) (F : Nat → Prop) (x : NV) (hx : NdR w F x t) (hbk : bkN t ≤ 300000000000) (hA : AskEnv w) :
  Calls Tryd.prog 31 #[x.val] w fun e w' => Below w.heap.size w w' ∧ e = .returned (.tuple #[.int .i64 (nestN (canonN t) : Int), .int .i64 0]) := by
 have HX := LH hx; have HA := LH hA
 clear hx hA
 obtain ⟨kd, fl, tx, xn, ⟨la, lb, lc⟩, ⟨ra, rb, rc⟩, ⟨oa, on, oc⟩, ⟨ka, kn, kc⟩⟩ := x
 have HB1 := LH ((Below.refl w.heap.size w).alloc (Nat.le_refl _) (.cells #[.int .i64 kd, .string (str fl), .string (str tx), .int .i64 xn, .bool la, .bool lb, .string (str lc), .bool ra, .bool rb, .string (str rc), .slice oa on oc, .slice ka kn kc] 27))
 have HN1 := LH (Blk.new w 27 #[.int .i64 kd, .string (str fl), .string (str tx), .int .i64 xn, .bool la, .bool lb, .string (str lc), .bool ra, .bool rb, .string (str rc), .slice oa on oc, .slice ka kn kc])
 have HX1 := LH (HX.out.belowW HB1.out)
 have HC := LH (rgood_any t (w.alloc (.cells #[.int .i64 kd, .string (str fl), .string (str tx), .int .i64 xn, .bool la, .bool lb, .string (str lc), .bool ra, .bool rb, .string (str rc), .slice oa on oc, .slice ka kn kc] 27)) F _ HX1.out (Nat.le_trans hbk (by decide)))
 have HK := LH (fun (W : World) (hW : NdR W F ⟨kd, fl, tx, xn, ⟨la, lb, lc⟩, ⟨ra, rb, rc⟩, ⟨oa, on, oc⟩, ⟨ka, kn, kc⟩⟩ t) => rcanon_any t W F _ hW (Nat.le_trans hbk (by decide)) hg)
 rw [hg] at HC
 unfold NV.val at HC HK ⊢
 simp only [] at HC HK
 go_enter Tryd.func31, Tryd.ntmps31
 go_wp2_with fail
 generalize (w.alloc (.cells #[.int .i64 kd, .string (str fl), .string (str tx), .int .i64 xn, .bool la, .bool lb, .string (str lc), .bool ra, .bool rb, .string (str rc), .slice oa on oc, .slice ka kn kc] 27)) = w1 at *
 have nzz := HN1.out
 obtain ⟨n0, n1, n2, n3, n4, n5, n6, n7, n8, n9, n10, n11, -, -, -, -, -, -, -, -, -, -, -, -, ln⟩ := blk12 nzz
 clear nzz
 refine HC.out.mono ?_
 rintro e w2 ⟨rfl, hb2⟩
 have HB2 := LH (HB1.out.trans (hb2.mono HB1.out.size))
 have HN2 := LH (HN1.out.belowW hb2)
 have HX2 := LH (HX1.out.belowW hb2)
 clear hb2 n0 n1 n2 n3 n4 n5 n6 n7 n8 n9 n10 n11 ln
 have nzz := HN2.out
 obtain ⟨n0, n1, n2, n3, n4, n5, n6, n7, n8, n9, n10, n11, -, -, -, -, -, -, -, -, -, -, -, -, ln⟩ := blk12 nzz
 clear nzz
 have HKK := LH (HK.out w2 HX2.out)
 go_wp2_with fail
 refine HKK.out.mono ?_
 rintro e w3 ⟨hb3, kdq, xnq, flq, txq, laq, lbq, lcq, raq, rbq, rcq, oaq, onq, ocq, kaq, knq, kcq, rfl, hy⟩
 have HB3 := LH (HB2.out.trans (hb3.mono HB2.out.size))
 have HKL := LH (rnest0 (canonN t) w3 _ _ hy (Nat.le_trans (canon_bk t) (Nat.le_trans hbk (by decide))) (canon_good t hg) (HA.out.below HB3.out))
 unfold NV.val at HKL
 simp only [] at HKL
 clear hb3 hy n0 n1 n2 n3 n4 n5 n6 n7 n8 n9 n10 n11 ln
 go_wp2_with fail
 refine HKL.out.mono ?_
 rintro e w4 ⟨rfl, hb4⟩
 have HB4 := LH (HB3.out.trans (hb4.mono HB3.out.size))
 clear hb4
 go_wp2
 refine bodyPost_ret (v := .tuple #[.int .i64 (nestN (canonN t) : Int), .int .i64 0]) ?_ rfl ?_
 ·simp [results, Tryd.results31, go_sem]
 ·exact ⟨HB4.out, rfl⟩
theorem rnestw_no (t : Nd) (hg : goodN t = false) (w : World) (F : Nat → Prop) (x : NV) (hx : NdR w F x t) (hbk : bkN t ≤ 300000000000) (hA : AskEnv w) :
  Calls Tryd.prog 31 #[x.val] w fun e w' => Below w.heap.size w w' ∧ e = .returned (.tuple #[.int .i64 0, .int .i64 18]) := by
 have HX := LH hx; have HA := LH hA
 clear hx hA
 obtain ⟨kd, fl, tx, xn, ⟨la, lb, lc⟩, ⟨ra, rb, rc⟩, ⟨oa, on, oc⟩, ⟨ka, kn, kc⟩⟩ := x
 have HB1 := LH ((Below.refl w.heap.size w).alloc (Nat.le_refl _) (.cells #[.int .i64 kd, .string (str fl), .string (str tx), .int .i64 xn, .bool la, .bool lb, .string (str lc), .bool ra, .bool rb, .string (str rc), .slice oa on oc, .slice ka kn kc] 27))
 have HN1 := LH (Blk.new w 27 #[.int .i64 kd, .string (str fl), .string (str tx), .int .i64 xn, .bool la, .bool lb, .string (str lc), .bool ra, .bool rb, .string (str rc), .slice oa on oc, .slice ka kn kc])
 have HX1 := LH (HX.out.belowW HB1.out)
 have HC := LH (rgood_any t (w.alloc (.cells #[.int .i64 kd, .string (str fl), .string (str tx), .int .i64 xn, .bool la, .bool lb, .string (str lc), .bool ra, .bool rb, .string (str rc), .slice oa on oc, .slice ka kn kc] 27)) F _ HX1.out (Nat.le_trans hbk (by decide)))
 rw [hg] at HC
 unfold NV.val at HC ⊢
 simp only [] at HC
 go_enter Tryd.func31, Tryd.ntmps31
 go_wp2_with fail
 generalize (w.alloc (.cells #[.int .i64 kd, .string (str fl), .string (str tx), .int .i64 xn, .bool la, .bool lb, .string (str lc), .bool ra, .bool rb, .string (str rc), .slice oa on oc, .slice ka kn kc] 27)) = w1 at *
 have nzz := HN1.out
 obtain ⟨n0, n1, n2, n3, n4, n5, n6, n7, n8, n9, n10, n11, -, -, -, -, -, -, -, -, -, -, -, -, ln⟩ := blk12 nzz
 clear nzz
 refine HC.out.mono ?_
 rintro e w2 ⟨rfl, hb2⟩
 have HB2 := LH (HB1.out.trans (hb2.mono HB1.out.size))
 have HN2 := LH (HN1.out.belowW hb2)
 have HX2 := LH (HX1.out.belowW hb2)
 clear hb2 n0 n1 n2 n3 n4 n5 n6 n7 n8 n9 n10 n11 ln
 go_wp2
 refine bodyPost_ret (v := .tuple #[.int .i64 0, .int .i64 18]) ?_ rfl ?_
 ·simp [results, Tryd.results31, go_sem, str]
 ·exact ⟨HB2.out, rfl⟩
theorem rprintw_yes (t : Nd) (hg : goodN t = true) (w : World) (F : Nat → Prop) (x : NV) (hx : NdR w F x t) (hbk : bkN t ≤ 300000000000) (hA : AskEnv w) :
  Calls Tryd.prog 32 #[x.val] w fun e w' => Below w.heap.size w w' ∧ e = .returned (.tuple #[.string (str (formN (canonN t))), .int .i64 0]) := by
 have HX := LH hx; have HA := LH hA
 clear hx hA
 obtain ⟨kd, fl, tx, xn, ⟨la, lb, lc⟩, ⟨ra, rb, rc⟩, ⟨oa, on, oc⟩, ⟨ka, kn, kc⟩⟩ := x
 have HB1 := LH ((Below.refl w.heap.size w).alloc (Nat.le_refl _) (.cells #[.int .i64 kd, .string (str fl), .string (str tx), .int .i64 xn, .bool la, .bool lb, .string (str lc), .bool ra, .bool rb, .string (str rc), .slice oa on oc, .slice ka kn kc] 27))
 have HN1 := LH (Blk.new w 27 #[.int .i64 kd, .string (str fl), .string (str tx), .int .i64 xn, .bool la, .bool lb, .string (str lc), .bool ra, .bool rb, .string (str rc), .slice oa on oc, .slice ka kn kc])
 have HX1 := LH (HX.out.belowW HB1.out)
 have HC := LH (rgood_any t (w.alloc (.cells #[.int .i64 kd, .string (str fl), .string (str tx), .int .i64 xn, .bool la, .bool lb, .string (str lc), .bool ra, .bool rb, .string (str rc), .slice oa on oc, .slice ka kn kc] 27)) F _ HX1.out (Nat.le_trans hbk (by decide)))
 have HK := LH (fun (W : World) (hW : NdR W F ⟨kd, fl, tx, xn, ⟨la, lb, lc⟩, ⟨ra, rb, rc⟩, ⟨oa, on, oc⟩, ⟨ka, kn, kc⟩⟩ t) => rcanon_any t W F _ hW (Nat.le_trans hbk (by decide)) hg)
 rw [hg] at HC
 unfold NV.val at HC HK ⊢
 simp only [] at HC HK
 go_enter Tryd.func32, Tryd.ntmps32
 go_wp2_with fail
 generalize (w.alloc (.cells #[.int .i64 kd, .string (str fl), .string (str tx), .int .i64 xn, .bool la, .bool lb, .string (str lc), .bool ra, .bool rb, .string (str rc), .slice oa on oc, .slice ka kn kc] 27)) = w1 at *
 have nzz := HN1.out
 obtain ⟨n0, n1, n2, n3, n4, n5, n6, n7, n8, n9, n10, n11, -, -, -, -, -, -, -, -, -, -, -, -, ln⟩ := blk12 nzz
 clear nzz
 refine HC.out.mono ?_
 rintro e w2 ⟨rfl, hb2⟩
 have HB2 := LH (HB1.out.trans (hb2.mono HB1.out.size))
 have HN2 := LH (HN1.out.belowW hb2)
 have HX2 := LH (HX1.out.belowW hb2)
 clear hb2 n0 n1 n2 n3 n4 n5 n6 n7 n8 n9 n10 n11 ln
 have nzz := HN2.out
 obtain ⟨n0, n1, n2, n3, n4, n5, n6, n7, n8, n9, n10, n11, -, -, -, -, -, -, -, -, -, -, -, -, ln⟩ := blk12 nzz
 clear nzz
 have HKK := LH (HK.out w2 HX2.out)
 go_wp2_with fail
 refine HKK.out.mono ?_
 rintro e w3 ⟨hb3, kdq, xnq, flq, txq, laq, lbq, lcq, raq, rbq, rcq, oaq, onq, ocq, kaq, knq, kcq, rfl, hy⟩
 have HB3 := LH (HB2.out.trans (hb3.mono HB2.out.size))
 have HKL := LH (rprinted0 (canonN t) w3 _ _ hy (Nat.le_trans (canon_bk t) hbk) (canon_good t hg) (HA.out.below HB3.out))
 unfold NV.val at HKL
 simp only [] at HKL
 clear hb3 hy n0 n1 n2 n3 n4 n5 n6 n7 n8 n9 n10 n11 ln
 go_wp2_with fail
 refine HKL.out.mono ?_
 rintro e w4 ⟨rfl, hb4⟩
 have HB4 := LH (HB3.out.trans (hb4.mono HB3.out.size))
 clear hb4
 go_wp2
 refine bodyPost_ret (v := .tuple #[.string (str (formN (canonN t))), .int .i64 0]) ?_ rfl ?_
 ·simp [results, Tryd.results32, go_sem]
 ·exact ⟨HB4.out, rfl⟩
theorem rprintw_no (t : Nd) (hg : goodN t = false) (w : World) (F : Nat → Prop) (x : NV) (hx : NdR w F x t) (hbk : bkN t ≤ 300000000000) (hA : AskEnv w) :
  Calls Tryd.prog 32 #[x.val] w fun e w' => Below w.heap.size w w' ∧ e = .returned (.tuple #[.string (str []), .int .i64 18]) := by
 have HX := LH hx; have HA := LH hA
 clear hx hA
 obtain ⟨kd, fl, tx, xn, ⟨la, lb, lc⟩, ⟨ra, rb, rc⟩, ⟨oa, on, oc⟩, ⟨ka, kn, kc⟩⟩ := x
 have HB1 := LH ((Below.refl w.heap.size w).alloc (Nat.le_refl _) (.cells #[.int .i64 kd, .string (str fl), .string (str tx), .int .i64 xn, .bool la, .bool lb, .string (str lc), .bool ra, .bool rb, .string (str rc), .slice oa on oc, .slice ka kn kc] 27))
 have HN1 := LH (Blk.new w 27 #[.int .i64 kd, .string (str fl), .string (str tx), .int .i64 xn, .bool la, .bool lb, .string (str lc), .bool ra, .bool rb, .string (str rc), .slice oa on oc, .slice ka kn kc])
 have HX1 := LH (HX.out.belowW HB1.out)
 have HC := LH (rgood_any t (w.alloc (.cells #[.int .i64 kd, .string (str fl), .string (str tx), .int .i64 xn, .bool la, .bool lb, .string (str lc), .bool ra, .bool rb, .string (str rc), .slice oa on oc, .slice ka kn kc] 27)) F _ HX1.out (Nat.le_trans hbk (by decide)))
 rw [hg] at HC
 unfold NV.val at HC ⊢
 simp only [] at HC
 go_enter Tryd.func32, Tryd.ntmps32
 go_wp2_with fail
 generalize (w.alloc (.cells #[.int .i64 kd, .string (str fl), .string (str tx), .int .i64 xn, .bool la, .bool lb, .string (str lc), .bool ra, .bool rb, .string (str rc), .slice oa on oc, .slice ka kn kc] 27)) = w1 at *
 have nzz := HN1.out
 obtain ⟨n0, n1, n2, n3, n4, n5, n6, n7, n8, n9, n10, n11, -, -, -, -, -, -, -, -, -, -, -, -, ln⟩ := blk12 nzz
 clear nzz
 refine HC.out.mono ?_
 rintro e w2 ⟨rfl, hb2⟩
 have HB2 := LH (HB1.out.trans (hb2.mono HB1.out.size))
 have HN2 := LH (HN1.out.belowW hb2)
 have HX2 := LH (HX1.out.belowW hb2)
 clear hb2 n0 n1 n2 n3 n4 n5 n6 n7 n8 n9 n10 n11 ln
 go_wp2
 refine bodyPost_ret (v := .tuple #[.string (str []), .int .i64 18]) ?_ rfl ?_
 ·simp [results, Tryd.results32, go_sem, str]
 ·exact ⟨HB2.out, rfl⟩
end Go.Proofs.YthcldpminmhgkaaDoor
end
