/- Merged for a claim by shake.py: Dj -/
import Derived.Test.YtcomdkejpaoneaaDoorKfA
import Derived.Test.YtcomdkejpaoneaaDoorKf43
section
namespace Go.Proofs.YtcomdkejpaoneaaDoor
open Go.RowKit
set_option maxRecDepth 100000
set_option maxHeartbeats 8000000
set_option linter.unusedSimpArgs false
set_option linter.unusedVariables false
theorem nd_listN {w : World} {F : Nat → Prop} {kd n m : Int} {fl tx : List UInt8} {lo hi : Bd} {so sk : Sl} {l : List (Int × Nd)} (h : NdR w F ⟨kd, fl, tx, n, lo, hi, so, sk⟩ (ndList 0 l)) : NdR w F ⟨kd, fl, tx, m, lo, hi, so, sk⟩ (ndList m l) := by
 unfold ndList at h ⊢
 cases h with
 | mk h1 h2 h3 h4 => exact .mk h1 h2 h3 h4
theorem ratom_all (s_ c_ t_ : Lt) (w : World) (B : Nat) (A : Option Addr) (k cap : Nat) (f : List UInt8) (h : RdL ltS w B (.slice A k cap) ([s_, c_, t_])) (hB : B ≤ w.heap.size) (hs : s_.kind = 2) (hc : c_.kind = 14) :
  Calls Tryd.prog 103 #[.slice A k cap, .string (str f)] w (RRet [(0, ndLeaf 8 [] [] 0)] w) := by
 have hk : k = 3 := by
  obtain ⟨A', cap', e, -, -⟩ := h.open_
  injection e with e1 e2 e3
  all_goals (first | exact e2 | (rw [e2]; simp))
 subst hk
 have HB1 := LH (show Below w.heap.size w (w.alloc zO) from (Below.refl _ _).alloc (Nat.le_refl _) zO)
 have HR1 := LH (h.belowW hB HB1.out)
 have HZ1 := LH (Blk.new w 36 zA)
 have HSW := LH (show B ≤ (w.alloc zO).heap.size from Nat.le_trans hB HB1.out.size)
 have HSL := LH (show w.heap.size < (w.alloc zO).heap.size from by rw [World.size_alloc]; omega)
 have HRB := LH h; have HBB := LH hB
 clear h hB
 obtain ⟨a, rfl⟩ := some_of_rd HR1.out
 have e50 : ((5 : Nat) = 0) = False := by simp
 have e150 : ((15 : Nat) = 0) = False := by simp
 have e200 : ((20 : Nat) = 0) = False := by simp
 have ea : a.add (0 * 5) = a := by simp [Addr.add]
 obtain ⟨hb0, c00, c01, c02, c03, c04⟩ := at_lt2 HR1.out a rfl 0 s_ rfl
 rw [ea] at hb0 c00 c01 c02 c03 c04
 obtain ⟨hb1, c10, c11, c12, c13, c14⟩ := at_lt2 HR1.out a rfl 1 c_ rfl
 simp only [Nat.one_mul, Addr.add, e50, if_false] at hb1 c10 c11 c12 c13 c14
 rw [hs] at c00
 rw [hc] at c10
 clear ea e50 hs hc
 go_enter Tryd.func103, Tryd.ntmps103
 go_wp2
 refine bodyPost_ret (v := (nvLeaf 8 [] [] 0).val) ?_ rfl ?_
 ·simp [results, Tryd.results103, go_sem, World.cell?_alloc_new, NV.val, nvLeaf, bd0, str]
 ·exact ⟨(Below.refl _ _).alloc (Nat.le_refl _) _, _, _, rfl, rfl, nd_leaf _ _ _ _ _ _⟩
theorem ratom_one1 (t_ : Lt) (l : List (Int × Nd)) (w : World) (B : Nat) (A : Option Addr) (k cap : Nat) (f : List UInt8) (h : RdL ltS w B (.slice A k cap) ([t_])) (hB : B ≤ w.heap.size) (hk0 : t_.kind = 1) (hL : ∀ (W : World) (k2 cap : Nat) (A : Option Addr), RdL ltS W B (.slice A k2 cap) [t_] → B ≤ W.heap.size → Calls Tryd.prog 109 #[.slice A k2 cap, .string (str f)] W (LfRet l W)) :
  Calls Tryd.prog 103 #[.slice A k cap, .string (str f)] w (RRet l w) := by
 have hk : k = 1 := by
  obtain ⟨A', cap', e, -, -⟩ := h.open_
  injection e with e1 e2 e3
  all_goals (first | exact e2 | (rw [e2]; simp))
 subst hk
 have HB1 := LH (show Below w.heap.size w (w.alloc zO) from (Below.refl _ _).alloc (Nat.le_refl _) zO)
 have HR1 := LH (h.belowW hB HB1.out)
 have HZ1 := LH (Blk.new w 36 zA)
 have HSW := LH (show B ≤ (w.alloc zO).heap.size from Nat.le_trans hB HB1.out.size)
 have HSL := LH (show w.heap.size < (w.alloc zO).heap.size from by rw [World.size_alloc]; omega)
 have HRB := LH h; have HBB := LH hB
 clear h hB
 obtain ⟨a, rfl⟩ := some_of_rd HR1.out
 have e50 : ((5 : Nat) = 0) = False := by simp
 have e150 : ((15 : Nat) = 0) = False := by simp
 have e200 : ((20 : Nat) = 0) = False := by simp
 have ea : a.add (0 * 5) = a := by simp [Addr.add]
 obtain ⟨hb0, c00, c01, c02, c03, c04⟩ := at_lt2 HR1.out a rfl 0 t_ rfl
 rw [ea] at hb0 c00 c01 c02 c03 c04
 rw [hk0] at c00
 have HLL := LH hL
 clear ea e50 hk0 hL
 go_enter Tryd.func103, Tryd.ntmps103
 go_wp2_with fail
 generalize w.alloc zO = w1 at *
 refine (HLL.out w1 _ cap (some a) HR1.out HSW.out).mono ?_
 rintro e w5 ⟨hb5, kd, f5, x5, n5, hl5, rfl⟩
 unfold NV.val nvLeaf
 simp only []
 have HV := LH hl5
 have HB5 := LH (HB1.out.trans (hb5.mono HB1.out.size))
 have hzz := HZ1.out.below hb5 HSL.out
 clear hb5 hl5 c00
 obtain ⟨z0, z1, z2, z3, z4, z5, z6, z7, z8, z9, z10, z11, fz0, fz1, fz2, fz3, fz4, fz5, fz6, fz7, fz8, fz9, fz10, fz11, lz⟩ := blk12 hzz; (try simp only [World.size_alloc] at lz)
 clear hzz
 go_wp2
 refine bodyPost_ret (v := (nvLeaf kd f5 x5 n5).val) ?_ rfl ?_
 ·simp [results, Tryd.results103, go_sem, NV.val, nvLeaf, bd0, str, lz, fz0, fz1, fz2, fz3, fz4, fz5, fz6, fz7, fz8, fz9, fz10, fz11, z0, z1, z2, z3, z4, z5, z6, z7, z8, z9, z10, z11]
 ·exact RRet.box (F := fun _ => False) HB5.out HV.out (nd_leaf _ _ _ _ _ _) (fun b h => h.elim)
theorem ratom_one2 (t_ : Lt) (l : List (Int × Nd)) (w : World) (B : Nat) (A : Option Addr) (k cap : Nat) (f : List UInt8) (h : RdL ltS w B (.slice A k cap) ([t_])) (hB : B ≤ w.heap.size) (hk0 : t_.kind = 2) (hL : ∀ (W : World) (k2 cap : Nat) (A : Option Addr), RdL ltS W B (.slice A k2 cap) [t_] → B ≤ W.heap.size → Calls Tryd.prog 109 #[.slice A k2 cap, .string (str f)] W (LfRet l W)) :
  Calls Tryd.prog 103 #[.slice A k cap, .string (str f)] w (RRet l w) := by
 have hk : k = 1 := by
  obtain ⟨A', cap', e, -, -⟩ := h.open_
  injection e with e1 e2 e3
  all_goals (first | exact e2 | (rw [e2]; simp))
 subst hk
 have HB1 := LH (show Below w.heap.size w (w.alloc zO) from (Below.refl _ _).alloc (Nat.le_refl _) zO)
 have HR1 := LH (h.belowW hB HB1.out)
 have HZ1 := LH (Blk.new w 36 zA)
 have HSW := LH (show B ≤ (w.alloc zO).heap.size from Nat.le_trans hB HB1.out.size)
 have HSL := LH (show w.heap.size < (w.alloc zO).heap.size from by rw [World.size_alloc]; omega)
 have HRB := LH h; have HBB := LH hB
 clear h hB
 obtain ⟨a, rfl⟩ := some_of_rd HR1.out
 have e50 : ((5 : Nat) = 0) = False := by simp
 have e150 : ((15 : Nat) = 0) = False := by simp
 have e200 : ((20 : Nat) = 0) = False := by simp
 have ea : a.add (0 * 5) = a := by simp [Addr.add]
 obtain ⟨hb0, c00, c01, c02, c03, c04⟩ := at_lt2 HR1.out a rfl 0 t_ rfl
 rw [ea] at hb0 c00 c01 c02 c03 c04
 rw [hk0] at c00
 have HLL := LH hL
 clear ea e50 hk0 hL
 go_enter Tryd.func103, Tryd.ntmps103
 go_wp2_with fail
 generalize w.alloc zO = w1 at *
 refine (HLL.out w1 _ cap (some a) HR1.out HSW.out).mono ?_
 rintro e w5 ⟨hb5, kd, f5, x5, n5, hl5, rfl⟩
 unfold NV.val nvLeaf
 simp only []
 have HV := LH hl5
 have HB5 := LH (HB1.out.trans (hb5.mono HB1.out.size))
 have hzz := HZ1.out.below hb5 HSL.out
 clear hb5 hl5 c00
 obtain ⟨z0, z1, z2, z3, z4, z5, z6, z7, z8, z9, z10, z11, fz0, fz1, fz2, fz3, fz4, fz5, fz6, fz7, fz8, fz9, fz10, fz11, lz⟩ := blk12 hzz; (try simp only [World.size_alloc] at lz)
 clear hzz
 go_wp2
 refine bodyPost_ret (v := (nvLeaf kd f5 x5 n5).val) ?_ rfl ?_
 ·simp [results, Tryd.results103, go_sem, NV.val, nvLeaf, bd0, str, lz, fz0, fz1, fz2, fz3, fz4, fz5, fz6, fz7, fz8, fz9, fz10, fz11, z0, z1, z2, z3, z4, z5, z6, z7, z8, z9, z10, z11]
 ·exact RRet.box (F := fun _ => False) HB5.out HV.out (nd_leaf _ _ _ _ _ _) (fun b h => h.elim)
theorem ratom_one3 (t_ : Lt) (l : List (Int × Nd)) (w : World) (B : Nat) (A : Option Addr) (k cap : Nat) (f : List UInt8) (h : RdL ltS w B (.slice A k cap) ([t_])) (hB : B ≤ w.heap.size) (hk0 : t_.kind = 3) (hL : ∀ (W : World) (k2 cap : Nat) (A : Option Addr), RdL ltS W B (.slice A k2 cap) [t_] → B ≤ W.heap.size → Calls Tryd.prog 109 #[.slice A k2 cap, .string (str f)] W (LfRet l W)) :
  Calls Tryd.prog 103 #[.slice A k cap, .string (str f)] w (RRet l w) := by
 have hk : k = 1 := by
  obtain ⟨A', cap', e, -, -⟩ := h.open_
  injection e with e1 e2 e3
  all_goals (first | exact e2 | (rw [e2]; simp))
 subst hk
 have HB1 := LH (show Below w.heap.size w (w.alloc zO) from (Below.refl _ _).alloc (Nat.le_refl _) zO)
 have HR1 := LH (h.belowW hB HB1.out)
 have HZ1 := LH (Blk.new w 36 zA)
 have HSW := LH (show B ≤ (w.alloc zO).heap.size from Nat.le_trans hB HB1.out.size)
 have HSL := LH (show w.heap.size < (w.alloc zO).heap.size from by rw [World.size_alloc]; omega)
 have HRB := LH h; have HBB := LH hB
 clear h hB
 obtain ⟨a, rfl⟩ := some_of_rd HR1.out
 have e50 : ((5 : Nat) = 0) = False := by simp
 have e150 : ((15 : Nat) = 0) = False := by simp
 have e200 : ((20 : Nat) = 0) = False := by simp
 have ea : a.add (0 * 5) = a := by simp [Addr.add]
 obtain ⟨hb0, c00, c01, c02, c03, c04⟩ := at_lt2 HR1.out a rfl 0 t_ rfl
 rw [ea] at hb0 c00 c01 c02 c03 c04
 rw [hk0] at c00
 have HLL := LH hL
 clear ea e50 hk0 hL
 go_enter Tryd.func103, Tryd.ntmps103
 go_wp2_with fail
 generalize w.alloc zO = w1 at *
 refine (HLL.out w1 _ cap (some a) HR1.out HSW.out).mono ?_
 rintro e w5 ⟨hb5, kd, f5, x5, n5, hl5, rfl⟩
 unfold NV.val nvLeaf
 simp only []
 have HV := LH hl5
 have HB5 := LH (HB1.out.trans (hb5.mono HB1.out.size))
 have hzz := HZ1.out.below hb5 HSL.out
 clear hb5 hl5 c00
 obtain ⟨z0, z1, z2, z3, z4, z5, z6, z7, z8, z9, z10, z11, fz0, fz1, fz2, fz3, fz4, fz5, fz6, fz7, fz8, fz9, fz10, fz11, lz⟩ := blk12 hzz; (try simp only [World.size_alloc] at lz)
 clear hzz
 go_wp2
 refine bodyPost_ret (v := (nvLeaf kd f5 x5 n5).val) ?_ rfl ?_
 ·simp [results, Tryd.results103, go_sem, NV.val, nvLeaf, bd0, str, lz, fz0, fz1, fz2, fz3, fz4, fz5, fz6, fz7, fz8, fz9, fz10, fz11, z0, z1, z2, z3, z4, z5, z6, z7, z8, z9, z10, z11]
 ·exact RRet.box (F := fun _ => False) HB5.out HV.out (nd_leaf _ _ _ _ _ _) (fun b h => h.elim)
theorem ratom_two1 (t_ u_ : Lt) (l : List (Int × Nd)) (w : World) (B : Nat) (A : Option Addr) (k cap : Nat) (f : List UInt8) (h : RdL ltS w B (.slice A k cap) ([t_, u_])) (hB : B ≤ w.heap.size) (hk0 : t_.kind = 1) (hk1 : u_.kind = 20) (hL : ∀ (W : World) (k2 cap : Nat) (A : Option Addr), RdL ltS W B (.slice A k2 cap) [t_, u_] → B ≤ W.heap.size → Calls Tryd.prog 109 #[.slice A k2 cap, .string (str f)] W (LfRet l W)) :
  Calls Tryd.prog 103 #[.slice A k cap, .string (str f)] w (RRet l w) := by
 have hk : k = 2 := by
  obtain ⟨A', cap', e, -, -⟩ := h.open_
  injection e with e1 e2 e3
  all_goals (first | exact e2 | (rw [e2]; simp))
 subst hk
 have HB1 := LH (show Below w.heap.size w (w.alloc zO) from (Below.refl _ _).alloc (Nat.le_refl _) zO)
 have HR1 := LH (h.belowW hB HB1.out)
 have HZ1 := LH (Blk.new w 36 zA)
 have HSW := LH (show B ≤ (w.alloc zO).heap.size from Nat.le_trans hB HB1.out.size)
 have HSL := LH (show w.heap.size < (w.alloc zO).heap.size from by rw [World.size_alloc]; omega)
 have HRB := LH h; have HBB := LH hB
 clear h hB
 obtain ⟨a, rfl⟩ := some_of_rd HR1.out
 have e50 : ((5 : Nat) = 0) = False := by simp
 have e150 : ((15 : Nat) = 0) = False := by simp
 have e200 : ((20 : Nat) = 0) = False := by simp
 have ea : a.add (0 * 5) = a := by simp [Addr.add]
 obtain ⟨hb0, c00, c01, c02, c03, c04⟩ := at_lt2 HR1.out a rfl 0 t_ rfl
 rw [ea] at hb0 c00 c01 c02 c03 c04
 rw [hk0] at c00
 obtain ⟨hb1, c10, c11, c12, c13, c14⟩ := at_lt2 HR1.out a rfl 1 u_ rfl
 simp only [Nat.one_mul, Addr.add, e50, if_false] at hb1 c10 c11 c12 c13 c14
 rw [hk1] at c10
 have HLL := LH hL
 clear ea e50 hk0 hL hk1
 go_enter Tryd.func103, Tryd.ntmps103
 go_wp2_with fail
 generalize w.alloc zO = w1 at *
 refine (HLL.out w1 _ cap (some a) HR1.out HSW.out).mono ?_
 rintro e w5 ⟨hb5, kd, f5, x5, n5, hl5, rfl⟩
 unfold NV.val nvLeaf
 simp only []
 have HV := LH hl5
 have HB5 := LH (HB1.out.trans (hb5.mono HB1.out.size))
 have hzz := HZ1.out.below hb5 HSL.out
 clear hb5 hl5 c00 c10
 obtain ⟨z0, z1, z2, z3, z4, z5, z6, z7, z8, z9, z10, z11, fz0, fz1, fz2, fz3, fz4, fz5, fz6, fz7, fz8, fz9, fz10, fz11, lz⟩ := blk12 hzz; (try simp only [World.size_alloc] at lz)
 clear hzz
 go_wp2
 refine bodyPost_ret (v := (nvLeaf kd f5 x5 n5).val) ?_ rfl ?_
 ·simp [results, Tryd.results103, go_sem, NV.val, nvLeaf, bd0, str, lz, fz0, fz1, fz2, fz3, fz4, fz5, fz6, fz7, fz8, fz9, fz10, fz11, z0, z1, z2, z3, z4, z5, z6, z7, z8, z9, z10, z11]
 ·exact RRet.box (F := fun _ => False) HB5.out HV.out (nd_leaf _ _ _ _ _ _) (fun b h => h.elim)
theorem ratom_two3 (t_ u_ : Lt) (l : List (Int × Nd)) (w : World) (B : Nat) (A : Option Addr) (k cap : Nat) (f : List UInt8) (h : RdL ltS w B (.slice A k cap) ([t_, u_])) (hB : B ≤ w.heap.size) (hk0 : t_.kind = 3) (hk1 : u_.kind = 20) (hL : ∀ (W : World) (k2 cap : Nat) (A : Option Addr), RdL ltS W B (.slice A k2 cap) [t_, u_] → B ≤ W.heap.size → Calls Tryd.prog 109 #[.slice A k2 cap, .string (str f)] W (LfRet l W)) :
  Calls Tryd.prog 103 #[.slice A k cap, .string (str f)] w (RRet l w) := by
 have hk : k = 2 := by
  obtain ⟨A', cap', e, -, -⟩ := h.open_
  injection e with e1 e2 e3
  all_goals (first | exact e2 | (rw [e2]; simp))
 subst hk
 have HB1 := LH (show Below w.heap.size w (w.alloc zO) from (Below.refl _ _).alloc (Nat.le_refl _) zO)
 have HR1 := LH (h.belowW hB HB1.out)
 have HZ1 := LH (Blk.new w 36 zA)
 have HSW := LH (show B ≤ (w.alloc zO).heap.size from Nat.le_trans hB HB1.out.size)
 have HSL := LH (show w.heap.size < (w.alloc zO).heap.size from by rw [World.size_alloc]; omega)
 have HRB := LH h; have HBB := LH hB
 clear h hB
 obtain ⟨a, rfl⟩ := some_of_rd HR1.out
 have e50 : ((5 : Nat) = 0) = False := by simp
 have e150 : ((15 : Nat) = 0) = False := by simp
 have e200 : ((20 : Nat) = 0) = False := by simp
 have ea : a.add (0 * 5) = a := by simp [Addr.add]
 obtain ⟨hb0, c00, c01, c02, c03, c04⟩ := at_lt2 HR1.out a rfl 0 t_ rfl
 rw [ea] at hb0 c00 c01 c02 c03 c04
 rw [hk0] at c00
 obtain ⟨hb1, c10, c11, c12, c13, c14⟩ := at_lt2 HR1.out a rfl 1 u_ rfl
 simp only [Nat.one_mul, Addr.add, e50, if_false] at hb1 c10 c11 c12 c13 c14
 rw [hk1] at c10
 have HLL := LH hL
 clear ea e50 hk0 hL hk1
 go_enter Tryd.func103, Tryd.ntmps103
 go_wp2_with fail
 generalize w.alloc zO = w1 at *
 refine (HLL.out w1 _ cap (some a) HR1.out HSW.out).mono ?_
 rintro e w5 ⟨hb5, kd, f5, x5, n5, hl5, rfl⟩
 unfold NV.val nvLeaf
 simp only []
 have HV := LH hl5
 have HB5 := LH (HB1.out.trans (hb5.mono HB1.out.size))
 have hzz := HZ1.out.below hb5 HSL.out
 clear hb5 hl5 c00 c10
 obtain ⟨z0, z1, z2, z3, z4, z5, z6, z7, z8, z9, z10, z11, fz0, fz1, fz2, fz3, fz4, fz5, fz6, fz7, fz8, fz9, fz10, fz11, lz⟩ := blk12 hzz; (try simp only [World.size_alloc] at lz)
 clear hzz
 go_wp2
 refine bodyPost_ret (v := (nvLeaf kd f5 x5 n5).val) ?_ rfl ?_
 ·simp [results, Tryd.results103, go_sem, NV.val, nvLeaf, bd0, str, lz, fz0, fz1, fz2, fz3, fz4, fz5, fz6, fz7, fz8, fz9, fz10, fz11, z0, z1, z2, z3, z4, z5, z6, z7, z8, z9, z10, z11]
 ·exact RRet.box (F := fun _ => False) HB5.out HV.out (nd_leaf _ _ _ _ _ _) (fun b h => h.elim)
theorem ratom_group (o_ c_ : Lt) (A0 : List Lt) (n : Nat) (v : Vl) (M : Nat) (w : World) (B : Nat) (A : Option Addr) (k cap : Nat) (f : List UInt8) (h : RdL ltS w B (.slice A k cap) (o_ :: (A0 ++ [c_]))) (hB : B ≤ w.heap.size) (hD : D .list A0 n v) (hT : TnOk A0) (hlen : A0.length < M) (hN : TreOk M) (ho : o_.kind = 8) (hl8 : A0.length ≤ 100000000) (t0 : Lt) (r0 : List Lt) (hA : A0 = t0 :: r0) (h14 : t0.kind ≠ 14) (hc : c_.kind = 9) :
  Calls Tryd.prog 103 #[.slice A k cap, .string (str f)] w (RRet [(0, treeN (v f))] w) := by
 have hk : k = A0.length + 2 := by
  obtain ⟨A', cap', e, -, -⟩ := h.open_
  injection e with e1 e2 e3
  all_goals (first | exact e2 | (rw [e2]; simp))
 subst hk
 have HB1 := LH (show Below w.heap.size w (w.alloc zO) from (Below.refl _ _).alloc (Nat.le_refl _) zO)
 have HR1 := LH (h.belowW hB HB1.out)
 have HZ1 := LH (Blk.new w 36 zA)
 have HSW := LH (show B ≤ (w.alloc zO).heap.size from Nat.le_trans hB HB1.out.size)
 have HSL := LH (show w.heap.size < (w.alloc zO).heap.size from by rw [World.size_alloc]; omega)
 have HRB := LH h; have HBB := LH hB
 clear h hB
 obtain ⟨m, hm⟩ : ∃ m, m = A0.length := ⟨_, rfl⟩
 have HPC := LH (show pc (o_ :: (A0 ++ [c_])) 1 (A0.length + 1) = A0 from by
  have h := pc_mid [o_] A0 [c_]
  simpa [Nat.add_comm] using h)
 obtain ⟨pa, pq, hpr, hrun⟩ := lt_cut HR1.out (i := 1) (j := A0.length + 1) (by omega) (by simp)
 rw [HPC.out, Nat.add_sub_cancel] at hpr
 rw [Nat.add_sub_cancel] at hrun
 have HPR := LH hpr
 clear hpr
 obtain ⟨a, rfl⟩ := some_of_rd HR1.out
 have e50 : ((5 : Nat) = 0) = False := by simp
 have e150 : ((15 : Nat) = 0) = False := by simp
 have e200 : ((20 : Nat) = 0) = False := by simp
 have ea : a.add (0 * 5) = a := by simp [Addr.add]
 obtain ⟨hb0, c00, c01, c02, c03, c04⟩ := at_lt2 HR1.out a rfl 0 o_ rfl
 rw [ea] at hb0 c00 c01 c02 c03 c04
 obtain ⟨hb1, c10, -, -, -, -⟩ := at_lt2 HR1.out a rfl 1 t0 (by rw [hA]; rfl)
 simp only [Nat.one_mul, Addr.add, e50, if_false] at hb1 c10
 have hx14 : (t0.kind == 14) = false := by simpa using h14
 rw [ho] at c00
 obtain ⟨hb9, c90, -, c92, -, -⟩ := at_lt2 HR1.out a rfl (A0.length + 1) c_ (by
  rw [List.getElem?_cons_succ, List.getElem?_append_right (by omega)]
  rw [Nat.sub_self]; rfl)
 rw [hc] at c90
 have HTB := LH (show (o_ :: (A0 ++ [c_]))[A0.length + 1]? = some c_ from by
  rw [List.getElem?_cons_succ, List.getElem?_append_right (by omega)]
  rw [Nat.sub_self]; rfl)
 rw [← hm] at hb9 c90 c92 hrun HTB hl8 ⊢
 rw [← hm] at HPR HR1 hlen
 have hm8 : m ≤ 100000000 := hl8
 have HLN := LH (show A0.length < M from by omega)
 have hrun2 : ∀ W, (Instr.slice 42 (.slice (some a) (m + 2) cap) (some (.int .i64 1)) (some (.int .i64 ((m : Int) + 2 - 1))) none).run Tryd.prog W = .ok (.slice pa m pq) W := by
  intro W
  rw [show ((m : Int) + 2 - 1) = ((m + 1 : Nat) : Int) from by omega]
  exact hrun W
 clear hrun hm
 have HNN := LH (fun (W : World) (hW : RdL ltS W B (.slice pa m pq) A0) (hS : B ≤ W.heap.size) => hN A0 n v hD hT HLN.out W B pa m pq f hW hS)
 clear ea e50 hD hT hlen hN ho hA h14 hl8 hc
 go_enter Tryd.func103, Tryd.ntmps103
 go_wp2_with fail
 have HPR1 := HPR.out
 clear c00 c10 c90 c92
 generalize w.alloc zO = w1 at *
 refine (HNN.out w1 HPR1 HSW.out).mono ?_
 rintro e w5 ⟨hb5, x, t5, rfl, hv, hx⟩
 obtain ⟨kd, fl, tx, xn, ⟨l1, l2, l3⟩, ⟨r1, r2, r3⟩, ⟨oa, on, oc⟩, ⟨ka, kn, kc⟩⟩ := x
 unfold NV.val
 simp only []
 have HB5 := LH (HB1.out.trans (hb5.mono HB1.out.size))
 have HZ5 := LH (HZ1.out.below hb5 HSL.out)
 have HX5 := LH (hx.mono (G := fun b => w.heap.size < b ∧ b < w5.heap.size) (fun b h => ⟨Nat.lt_of_lt_of_le HSL.out h.1, h.2⟩))
 have HV := LH hv
 clear hb5 hx hv HPR1
 have hzz := HZ5.out
 obtain ⟨z0, z1, z2, z3, z4, z5, z6, z7, z8, z9, z10, z11, fz0, fz1, fz2, fz3, fz4, fz5, fz6, fz7, fz8, fz9, fz10, fz11, lz⟩ := blk12 hzz; (try simp only [World.size_alloc] at lz)
 clear hzz
 go_wp2
 refine bodyPost_ret (v := NV.val ⟨kd, fl, tx, xn, ⟨l1, l2, l3⟩, ⟨r1, r2, r3⟩, ⟨oa, on, oc⟩, ⟨ka, kn, kc⟩⟩) ?_ rfl ?_
 ·simp [results, Tryd.results103, go_sem, NV.val, bd0, str, lz, fz0, fz1, fz2, fz3, fz4, fz5, fz6, fz7, fz8, fz9, fz10, fz11, z0, z1, z2, z3, z4, z5, z6, z7, z8, z9, z10, z11]
 ·exact RRet.box HB5.out HV.out HX5.out (fun b h => h)
theorem ratom_least0 (o_ c_ l_ : Lt) (A0 : List Lt) (n : Nat) (v : Vl) (M : Nat) (w : World) (B : Nat) (A : Option Addr) (k cap : Nat) (f : List UInt8) (h : RdL ltS w B (.slice A k cap) (o_ :: (A0 ++ [c_, l_]))) (hB : B ≤ w.heap.size) (hD : D .list A0 n v) (hT : TnOk A0) (hlen : A0.length < M) (hN : TreOk M) (ho : o_.kind = 8) (hl8 : A0.length ≤ 100000000) (t0 : Lt) (r0 : List Lt) (hA : A0 = t0 :: r0) (h14 : t0.kind ≠ 14) (hc : c_.kind = 9) (hl : l_.kind = 21) (hn : l_.n = 0) :
  Calls Tryd.prog 103 #[.slice A k cap, .string (str f)] w (RRet [(0, treeN (v f))] w) := by
 have hk : k = A0.length + 3 := by
  obtain ⟨A', cap', e, -, -⟩ := h.open_
  injection e with e1 e2 e3
  all_goals (first | exact e2 | (rw [e2]; simp))
 subst hk
 have HB1 := LH (show Below w.heap.size w (w.alloc zO) from (Below.refl _ _).alloc (Nat.le_refl _) zO)
 have HR1 := LH (h.belowW hB HB1.out)
 have HZ1 := LH (Blk.new w 36 zA)
 have HSW := LH (show B ≤ (w.alloc zO).heap.size from Nat.le_trans hB HB1.out.size)
 have HSL := LH (show w.heap.size < (w.alloc zO).heap.size from by rw [World.size_alloc]; omega)
 have HRB := LH h; have HBB := LH hB
 clear h hB
 obtain ⟨m, hm⟩ : ∃ m, m = A0.length := ⟨_, rfl⟩
 have HPC := LH (show pc (o_ :: (A0 ++ [c_, l_])) 1 (A0.length + 1) = A0 from by
  have h := pc_mid [o_] A0 [c_, l_]
  simpa [Nat.add_comm] using h)
 obtain ⟨pa, pq, hpr, hrun⟩ := lt_cut HR1.out (i := 1) (j := A0.length + 1) (by omega) (by simp)
 rw [HPC.out, Nat.add_sub_cancel] at hpr
 rw [Nat.add_sub_cancel] at hrun
 have HPR := LH hpr
 clear hpr
 obtain ⟨a, rfl⟩ := some_of_rd HR1.out
 have e50 : ((5 : Nat) = 0) = False := by simp
 have e150 : ((15 : Nat) = 0) = False := by simp
 have e200 : ((20 : Nat) = 0) = False := by simp
 have ea : a.add (0 * 5) = a := by simp [Addr.add]
 obtain ⟨hb0, c00, c01, c02, c03, c04⟩ := at_lt2 HR1.out a rfl 0 o_ rfl
 rw [ea] at hb0 c00 c01 c02 c03 c04
 obtain ⟨hb1, c10, -, -, -, -⟩ := at_lt2 HR1.out a rfl 1 t0 (by rw [hA]; rfl)
 simp only [Nat.one_mul, Addr.add, e50, if_false] at hb1 c10
 have hx14 : (t0.kind == 14) = false := by simpa using h14
 rw [ho] at c00
 obtain ⟨hb9, c90, -, c92, -, -⟩ := at_lt2 HR1.out a rfl (A0.length + 2) l_ (by
  rw [List.getElem?_cons_succ, List.getElem?_append_right (by omega)]
  rw [show A0.length + 1 - A0.length = 1 from by omega]; rfl)
 rw [hl] at c90
 have HTB := LH (show (o_ :: (A0 ++ [c_, l_]))[A0.length + 2]? = some l_ from by
  rw [List.getElem?_cons_succ, List.getElem?_append_right (by omega)]
  rw [show A0.length + 1 - A0.length = 1 from by omega]; rfl)
 rw [← hm] at hb9 c90 c92 hrun HTB hl8 ⊢
 rw [← hm] at HPR HR1 hlen
 rw [hn] at c92
 have hm8 : m ≤ 100000000 := hl8
 have HLN := LH (show A0.length < M from by omega)
 have hrun2 : ∀ W, (Instr.slice 42 (.slice (some a) (m + 3) cap) (some (.int .i64 1)) (some (.int .i64 ((m : Int) + 3 - 2))) none).run Tryd.prog W = .ok (.slice pa m pq) W := by
  intro W
  rw [show ((m : Int) + 3 - 2) = ((m + 1 : Nat) : Int) from by omega]
  exact hrun W
 clear hrun hm
 have HNN := LH (fun (W : World) (hW : RdL ltS W B (.slice pa m pq) A0) (hS : B ≤ W.heap.size) => hN A0 n v hD hT HLN.out W B pa m pq f hW hS)
 clear ea e50 hD hT hlen hN ho hA h14 hl8 hc hl hn
 go_enter Tryd.func103, Tryd.ntmps103
 go_wp2_with fail
 have HPR1 := HPR.out
 clear c00 c10 c90 c92
 generalize w.alloc zO = w1 at *
 refine (HNN.out w1 HPR1 HSW.out).mono ?_
 rintro e w5 ⟨hb5, x, t5, rfl, hv, hx⟩
 obtain ⟨kd, fl, tx, xn, ⟨l1, l2, l3⟩, ⟨r1, r2, r3⟩, ⟨oa, on, oc⟩, ⟨ka, kn, kc⟩⟩ := x
 unfold NV.val
 simp only []
 have HB5 := LH (HB1.out.trans (hb5.mono HB1.out.size))
 have HZ5 := LH (HZ1.out.below hb5 HSL.out)
 have HX5 := LH (hx.mono (G := fun b => w.heap.size < b ∧ b < w5.heap.size) (fun b h => ⟨Nat.lt_of_lt_of_le HSL.out h.1, h.2⟩))
 have HV := LH hv
 clear hb5 hx hv HPR1
 have hzz := HZ5.out
 obtain ⟨z0, z1, z2, z3, z4, z5, z6, z7, z8, z9, z10, z11, fz0, fz1, fz2, fz3, fz4, fz5, fz6, fz7, fz8, fz9, fz10, fz11, lz⟩ := blk12 hzz; (try simp only [World.size_alloc] at lz)
 clear hzz
 go_wp2
 refine bodyPost_ret (v := NV.val ⟨kd, fl, tx, xn, ⟨l1, l2, l3⟩, ⟨r1, r2, r3⟩, ⟨oa, on, oc⟩, ⟨ka, kn, kc⟩⟩) ?_ rfl ?_
 ·simp [results, Tryd.results103, go_sem, NV.val, bd0, str, lz, fz0, fz1, fz2, fz3, fz4, fz5, fz6, fz7, fz8, fz9, fz10, fz11, z0, z1, z2, z3, z4, z5, z6, z7, z8, z9, z10, z11]
 ·exact RRet.box HB5.out HV.out HX5.out (fun b h => h)
theorem ratom_leastN (o_ c_ l_ : Lt) (A0 : List Lt) (n : Nat) (v : Vl) (M : Nat) (w : World) (B : Nat) (A : Option Addr) (k cap : Nat) (f : List UInt8) (h : RdL ltS w B (.slice A k cap) (o_ :: (A0 ++ [c_, l_]))) (hB : B ≤ w.heap.size) (hD : D .list A0 n v) (hT : TnOk A0) (hlen : A0.length < M) (hN : WhOk M) (ho : o_.kind = 8) (hl8 : A0.length ≤ 100000000) (t0 : Lt) (r0 : List Lt) (hA : A0 = t0 :: r0) (h14 : t0.kind ≠ 14) (hc : c_.kind = 9) (hl : l_.kind = 21) (hn : l_.n ≠ 0) :
  Calls Tryd.prog 103 #[.slice A k cap, .string (str f)] w (RRet [(0, ndList l_.n (v f))] w) := by
 have hk : k = A0.length + 3 := by
  obtain ⟨A', cap', e, -, -⟩ := h.open_
  injection e with e1 e2 e3
  all_goals (first | exact e2 | (rw [e2]; simp))
 subst hk
 have HB1 := LH (show Below w.heap.size w (w.alloc zO) from (Below.refl _ _).alloc (Nat.le_refl _) zO)
 have HR1 := LH (h.belowW hB HB1.out)
 have HZ1 := LH (Blk.new w 36 zA)
 have HSW := LH (show B ≤ (w.alloc zO).heap.size from Nat.le_trans hB HB1.out.size)
 have HSL := LH (show w.heap.size < (w.alloc zO).heap.size from by rw [World.size_alloc]; omega)
 have HRB := LH h; have HBB := LH hB
 clear h hB
 obtain ⟨m, hm⟩ : ∃ m, m = A0.length := ⟨_, rfl⟩
 have HPC := LH (show pc (o_ :: (A0 ++ [c_, l_])) 1 (A0.length + 1) = A0 from by
  have h := pc_mid [o_] A0 [c_, l_]
  simpa [Nat.add_comm] using h)
 obtain ⟨pa, pq, hpr, hrun⟩ := lt_cut HR1.out (i := 1) (j := A0.length + 1) (by omega) (by simp)
 rw [HPC.out, Nat.add_sub_cancel] at hpr
 rw [Nat.add_sub_cancel] at hrun
 have HPR := LH hpr
 clear hpr
 obtain ⟨a, rfl⟩ := some_of_rd HR1.out
 have e50 : ((5 : Nat) = 0) = False := by simp
 have e150 : ((15 : Nat) = 0) = False := by simp
 have e200 : ((20 : Nat) = 0) = False := by simp
 have ea : a.add (0 * 5) = a := by simp [Addr.add]
 obtain ⟨hb0, c00, c01, c02, c03, c04⟩ := at_lt2 HR1.out a rfl 0 o_ rfl
 rw [ea] at hb0 c00 c01 c02 c03 c04
 obtain ⟨hb1, c10, -, -, -, -⟩ := at_lt2 HR1.out a rfl 1 t0 (by rw [hA]; rfl)
 simp only [Nat.one_mul, Addr.add, e50, if_false] at hb1 c10
 have hx14 : (t0.kind == 14) = false := by simpa using h14
 rw [ho] at c00
 obtain ⟨hb9, c90, -, c92, -, -⟩ := at_lt2 HR1.out a rfl (A0.length + 2) l_ (by
  rw [List.getElem?_cons_succ, List.getElem?_append_right (by omega)]
  rw [show A0.length + 1 - A0.length = 1 from by omega]; rfl)
 rw [hl] at c90
 have HTB := LH (show (o_ :: (A0 ++ [c_, l_]))[A0.length + 2]? = some l_ from by
  rw [List.getElem?_cons_succ, List.getElem?_append_right (by omega)]
  rw [show A0.length + 1 - A0.length = 1 from by omega]; rfl)
 rw [← hm] at hb9 c90 c92 hrun HTB hl8 ⊢
 rw [← hm] at HPR HR1 hlen
 have hn0 : (l_.n == 0) = false := by simpa using hn
 have hm8 : m ≤ 100000000 := hl8
 have HLN := LH (show A0.length < M from by omega)
 have hrun2 : ∀ W, (Instr.slice 42 (.slice (some a) (m + 3) cap) (some (.int .i64 1)) (some (.int .i64 ((m : Int) + 3 - 2))) none).run Tryd.prog W = .ok (.slice pa m pq) W := by
  intro W
  rw [show ((m : Int) + 3 - 2) = ((m + 1 : Nat) : Int) from by omega]
  exact hrun W
 clear hrun hm
 have HNN := LH (fun (W : World) (hW : RdL ltS W B (.slice pa m pq) A0) (hS : B ≤ W.heap.size) => hN A0 n v hD hT HLN.out W B pa m pq f hW hS)
 clear ea e50 hD hT hlen hN ho hA h14 hl8 hc hl hn
 go_enter Tryd.func103, Tryd.ntmps103
 go_wp2_with fail
 have HPR1 := HPR.out
 clear c00 c10 c90 
 generalize w.alloc zO = w1 at *
 refine (HNN.out w1 HPR1 HSW.out).mono ?_
 rintro e w5 ⟨hb5, x, t5, rfl, hv, hx⟩
 obtain ⟨kd, fl, tx, xn, ⟨l1, l2, l3⟩, ⟨r1, r2, r3⟩, ⟨oa, on, oc⟩, ⟨ka, kn, kc⟩⟩ := x
 unfold NV.val
 simp only []
 have HB5 := LH (HB1.out.trans (hb5.mono HB1.out.size))
 have HZ5 := LH (HZ1.out.below hb5 HSL.out)
 have HX5 := LH (hx.mono (G := fun b => w.heap.size < b ∧ b < w5.heap.size) (fun b h => ⟨Nat.lt_of_lt_of_le HSL.out h.1, h.2⟩))
 have HV := LH (show ndList 0 (v f) = t5 from by injection hv with hv _; injection hv)
 have HS5 := LH hb5.size
 have HR5 := LH (HR1.out.belowW HSW.out hb5)
 have HW5 := LH (show B ≤ w5.heap.size from Nat.le_trans HSW.out hb5.size)
 clear hb5 hx hv HPR1 c92
 have HR6 := LH (HR5.out.belowW HW5.out ((Below.refl _ _).alloc (Nat.le_refl _) (.cells #[.int .i64 kd, .string (str fl), .string (str tx), .int .i64 xn, .bool l1, .bool l2, .string (str l3), .bool r1, .bool r2, .string (str r3), .slice oa on oc, .slice ka kn kc] 36)))
 obtain ⟨hb9, c90, -, c92, -, -⟩ := at_lt2 HR6.out a rfl (m + 2) l_ HTB.out
 have HB6 := LH (HB5.out.alloc HB5.out.size (.cells #[.int .i64 kd, .string (str fl), .string (str tx), .int .i64 l_.n, .bool l1, .bool l2, .string (str l3), .bool r1, .bool r2, .string (str r3), .slice oa on oc, .slice ka kn kc] 36))
 have HN6 := LH (HX5.out.belowW ((Below.refl w5.heap.size w5).alloc (Nat.le_refl _) (.cells #[.int .i64 kd, .string (str fl), .string (str tx), .int .i64 l_.n, .bool l1, .bool l2, .string (str l3), .bool r1, .bool r2, .string (str r3), .slice oa on oc, .slice ka kn kc] 36)))
 have HG5 := LH (show w.heap.size < w5.heap.size from Nat.lt_of_lt_of_le HSL.out HS5.out)
 have HG6 := LH (show (w5.alloc (.cells #[.int .i64 kd, .string (str fl), .string (str tx), .int .i64 l_.n, .bool l1, .bool l2, .string (str l3), .bool r1, .bool r2, .string (str r3), .slice oa on oc, .slice ka kn kc] 36)).heap.size = w5.heap.size + 1 from by rw [World.size_alloc])
 have hzz := HZ5.out
 obtain ⟨z0, z1, z2, z3, z4, z5, z6, z7, z8, z9, z10, z11, fz0, fz1, fz2, fz3, fz4, fz5, fz6, fz7, fz8, fz9, fz10, fz11, lz⟩ := blk12 hzz; (try simp only [World.size_alloc] at lz)
 clear hzz
 go_wp2
 refine bodyPost_ret (v := NV.val ⟨kd, fl, tx, l_.n, ⟨l1, l2, l3⟩, ⟨r1, r2, r3⟩, ⟨oa, on, oc⟩, ⟨ka, kn, kc⟩⟩) ?_ rfl ?_
 ·simp [results, Tryd.results103, go_sem, World.cell?_alloc_lt, NV.val, bd0, str, lz, fz0, fz1, fz2, fz3, fz4, fz5, fz6, fz7, fz8, fz9, fz10, fz11, z0, z1, z2, z3, z4, z5, z6, z7, z8, z9, z10, z11]
 ·refine RRet.box1 HG5.out HB6.out rfl (nd_listN (n := xn) (h := ?_)) (fun b h => h)
  rw [HV.out]
  exact HN6.out.mono fun b h => ⟨h.1, by rw [HG6.out]; have := h.2; omega⟩
theorem ratom_field (w_ c_ : Lt) (A0 : List Lt) (n : Nat) (v : Vl) (M : Nat) (w : World) (B : Nat) (A : Option Addr) (k cap : Nat) (f : List UInt8) (h : RdL ltS w B (.slice A k cap) (w_ :: c_ :: A0)) (hB : B ≤ w.heap.size) (hD : D .atom A0 n v) (hT : TnOk A0) (hlen : A0.length < M) (hN : AtmOk M) (hw : w_.kind = 1) (hc : c_.kind = 14) (hl8 : A0.length ≤ 100000000) :
  Calls Tryd.prog 103 #[.slice A k cap, .string (str f)] w (RRet (v w_.text) w) := by
 have hk : k = A0.length + 2 := by
  obtain ⟨A', cap', e, -, -⟩ := h.open_
  injection e with e1 e2 e3
  all_goals (first | exact e2 | (rw [e2]; simp))
 subst hk
 have HB1 := LH (show Below w.heap.size w (w.alloc zO) from (Below.refl _ _).alloc (Nat.le_refl _) zO)
 have HR1 := LH (h.belowW hB HB1.out)
 have HZ1 := LH (Blk.new w 36 zA)
 have HSW := LH (show B ≤ (w.alloc zO).heap.size from Nat.le_trans hB HB1.out.size)
 have HSL := LH (show w.heap.size < (w.alloc zO).heap.size from by rw [World.size_alloc]; omega)
 have HRB := LH h; have HBB := LH hB
 clear h hB
 obtain ⟨pa, pq, hpr, hrun⟩ := lt_from HR1.out (i := 2) (by simp)
 have HPR := LH (show RdL ltS (w.alloc zO) B (.slice pa A0.length pq) A0 from hpr)
 have hrun2 : ∀ W, (Instr.slice 42 (.slice A (A0.length + 2) cap) (some (.int .i64 2)) none none).run Tryd.prog W = .ok (.slice pa A0.length pq) W := hrun
 clear hpr hrun
 obtain ⟨a, rfl⟩ := some_of_rd HR1.out
 have e50 : ((5 : Nat) = 0) = False := by simp
 have e150 : ((15 : Nat) = 0) = False := by simp
 have e200 : ((20 : Nat) = 0) = False := by simp
 have ea : a.add (0 * 5) = a := by simp [Addr.add]
 obtain ⟨hb0, c00, c01, c02, c03, c04⟩ := at_lt2 HR1.out a rfl 0 w_ rfl
 rw [ea] at hb0 c00 c01 c02 c03 c04
 obtain ⟨hb1, c10, c11, c12, c13, c14⟩ := at_lt2 HR1.out a rfl 1 c_ rfl
 simp only [Nat.one_mul, Addr.add, e50, if_false] at hb1 c10 c11 c12 c13 c14
 rw [hw] at c00
 rw [hc] at c10
 have HNN := LH (fun (W : World) (hW : RdL ltS W B (.slice pa A0.length pq) A0) (hS : B ≤ W.heap.size) => hN A0 n v hD hT hlen W B pa A0.length pq w_.text hW hS)
 clear ea e50 hD hT hlen hN hw hc c02 c03 c04 c11 c12 c13 c14
 generalize A0.length = m at *
 have hp0 : (0 : Int) < (m : Int) + 2 := by omega
 go_enter Tryd.func103, Tryd.ntmps103
 go_wp2_with fail
 generalize w.alloc zO = w1 at *
 have HPRd := LH (HPR.out.drew)
 have HSWd := LH (show B ≤ w1.drew.heap.size from HSW.out)
 have HZ1d := LH (HZ1.out.drew)
 have HSLd := LH (show w.heap.size < w1.drew.heap.size from HSL.out)
 go_region_law (first
  | (go_simp; go_at_call 103; refine (HNN.out _ HPRd.out HSWd.out).mono ?_; (rintro e w5 ⟨hb5, x, t5, rfl, hv, hx⟩); (obtain ⟨kd, fl, tx, xn, ⟨l1, l2, l3⟩, ⟨r1, r2, r3⟩, ⟨oa, on, oc⟩, ⟨ka, kn, kc⟩⟩ := x); (unfold NV.val); (simp only []); (have hzz := HZ1d.out.below hb5 HSLd.out); (have z0 := hzz.cell 0); (have z1 := hzz.cell 1); (have z2 := hzz.cell 2); (have z3 := hzz.cell 3); (have z4 := hzz.cell 4); (have z5 := hzz.cell 5); (have z6 := hzz.cell 6); (have z7 := hzz.cell 7); (have z8 := hzz.cell 8); (have z9 := hzz.cell 9); (have z10 := hzz.cell 10); (have z11 := hzz.cell 11); (have fz0 := hzz.frozen 0); (have fz1 := hzz.frozen 1); (have fz2 := hzz.frozen 2); (have fz3 := hzz.frozen 3); (have fz4 := hzz.frozen 4); (have fz5 := hzz.frozen 5); (have fz6 := hzz.frozen 6); (have fz7 := hzz.frozen 7); (have fz8 := hzz.frozen 8); (have fz9 := hzz.frozen 9); (have fz10 := hzz.frozen 10); (have fz11 := hzz.frozen 11); (have lz := hzz.lt); (simp only [List.getElem?_toArray, List.getElem?_cons_zero, List.getElem?_cons_succ, World.size_alloc] at z0 z1 z2 z3 z4 z5 z6 z7 z8 z9 z10 z11 lz); (clear hzz)))
 all_goals
  have HV := LH hv
  have HB5 := LH (HB1.out.drew.trans (hb5.mono HB1.out.size))
  have HX5 := LH (hx.mono (G := fun b => w.heap.size < b ∧ b < w5.heap.size) (fun b h => ⟨Nat.lt_of_lt_of_le HSL.out h.1, h.2⟩))
  clear hb5 hx hv
  go_wp2
  refine bodyPost_ret (v := NV.val ⟨kd, fl, tx, xn, ⟨l1, l2, l3⟩, ⟨r1, r2, r3⟩, ⟨oa, on, oc⟩, ⟨ka, kn, kc⟩⟩) ?_ rfl ?_
  ·simp [results, Tryd.results103, go_sem, NV.val, bd0, str, lz, fz0, fz1, fz2, fz3, fz4, fz5, fz6, fz7, fz8, fz9, fz10, fz11, z0, z1, z2, z3, z4, z5, z6, z7, z8, z9, z10, z11]
  ·exact RRet.box HB5.out HV.out HX5.out (fun b h => h)
theorem ratom_span1011 (a_ c_ e_ : Lt) (k1 : Int) (x1 : List UInt8) (n1 a1 e1 k3 : Int) (x3 : List UInt8) (n3 a3 e3 : Int) (w : World) (B : Nat) (A : Option Addr) (k cap : Nat) (f : List UInt8) (h : RdL ltS w B (.slice A k cap) ([a_, ⟨k1, x1, n1, a1, e1⟩, c_, ⟨k3, x3, n3, a3, e3⟩, e_])) (hB : B ≤ w.heap.size) (ha : a_.kind = 10) (he : e_.kind = 11) (hs1 : sideT ⟨k1, x1, n1, a1, e1⟩ = true) (hs3 : sideT ⟨k3, x3, n3, a3, e3⟩ = true) :
  Calls Tryd.prog 103 #[.slice A k cap, .string (str f)] w (RRet [(0, .mk 6 f [] 0 (sideN ⟨k1, x1, n1, a1, e1⟩ true) (sideN ⟨k3, x3, n3, a3, e3⟩ true) [] [])] w) := by
 have hk : k = 5 := by
  obtain ⟨A', cap', e, -, -⟩ := h.open_
  injection e with e1 e2 e3
  all_goals (first | exact e2 | (rw [e2]; simp))
 subst hk
 have HB1 := LH (show Below w.heap.size w (w.alloc zO) from (Below.refl _ _).alloc (Nat.le_refl _) zO)
 have HR1 := LH (h.belowW hB HB1.out)
 have HZ1 := LH (Blk.new w 36 zA)
 have HSW := LH (show B ≤ (w.alloc zO).heap.size from Nat.le_trans hB HB1.out.size)
 have HSL := LH (show w.heap.size < (w.alloc zO).heap.size from by rw [World.size_alloc]; omega)
 have HRB := LH h; have HBB := LH hB
 clear h hB
 have h14 : (k1 == 14) = false := by simp [sideT, starT] at hs1; simp; omega
 obtain ⟨lo, hlo⟩ : ∃ lo, lo = sideN ⟨k1, x1, n1, a1, e1⟩ true := ⟨_, rfl⟩
 obtain ⟨hi, hhi⟩ : ∃ hi, hi = sideN ⟨k3, x3, n3, a3, e3⟩ true := ⟨_, rfl⟩
 rw [← hlo, ← hhi]
 have HLO := LH (show ∀ W, Calls Tryd.prog 108 #[.agg #[.int .i64 k1, .string (str x1), .int .i64 n1, .int .i64 a1, .int .i64 e1], .bool true] W (fun e w' => e = .returned (.agg #[.bool lo.open_, .bool lo.in_, .string (str lo.text)]) ∧ Below W.heap.size W w') from fun W => by
  rw [hlo]; exact rside_any ⟨k1, x1, n1, a1, e1⟩ true W hs1)
 have HHI := LH (show ∀ W, Calls Tryd.prog 108 #[.agg #[.int .i64 k3, .string (str x3), .int .i64 n3, .int .i64 a3, .int .i64 e3], .bool true] W (fun e w' => e = .returned (.agg #[.bool hi.open_, .bool hi.in_, .string (str hi.text)]) ∧ Below W.heap.size W w') from fun W => by
  rw [hhi]; exact rside_any ⟨k3, x3, n3, a3, e3⟩ true W hs3)
 clear hlo hhi hs1 hs3
 obtain ⟨a, rfl⟩ := some_of_rd HR1.out
 have e50 : ((5 : Nat) = 0) = False := by simp
 have e150 : ((15 : Nat) = 0) = False := by simp
 have e200 : ((20 : Nat) = 0) = False := by simp
 have ea : a.add (0 * 5) = a := by simp [Addr.add]
 have HB2 := LH (HB1.out.alloc HB1.out.size (.cells #[.int .i64 6, .string (str f), .string ⟨#[]⟩, .int .i64 0, .bool false, .bool false, .string ⟨#[]⟩, .bool false, .bool false, .string ⟨#[]⟩, .slice none 0 0, .slice none 0 0] 36))
 have HR2 := LH (HR1.out.belowW HSW.out ((Below.refl _ _).alloc (Nat.le_refl _) (.cells #[.int .i64 6, .string (str f), .string ⟨#[]⟩, .int .i64 0, .bool false, .bool false, .string ⟨#[]⟩, .bool false, .bool false, .string ⟨#[]⟩, .slice none 0 0, .slice none 0 0] 36)))
 have HZ2 := LH (HZ1.out.alloc (.cells #[.int .i64 6, .string (str f), .string ⟨#[]⟩, .int .i64 0, .bool false, .bool false, .string ⟨#[]⟩, .bool false, .bool false, .string ⟨#[]⟩, .slice none 0 0, .slice none 0 0] 36))
 have HX2 := LH (show Blk ((w.alloc zO).alloc (.cells #[.int .i64 6, .string (str f), .string ⟨#[]⟩, .int .i64 0, .bool false, .bool false, .string ⟨#[]⟩, .bool false, .bool false, .string ⟨#[]⟩, .slice none 0 0, .slice none 0 0] 36)) (w.heap.size + 1) 36 #[.int .i64 6, .string (str f), .string ⟨#[]⟩, .int .i64 0, .bool false, .bool false, .string ⟨#[]⟩, .bool false, .bool false, .string ⟨#[]⟩, .slice none 0 0, .slice none 0 0] from by
  have h := Blk.new (w.alloc zO) 36 #[.int .i64 6, .string (str f), .string ⟨#[]⟩, .int .i64 0, .bool false, .bool false, .string ⟨#[]⟩, .bool false, .bool false, .string ⟨#[]⟩, .slice none 0 0, .slice none 0 0]
  rw [World.size_alloc] at h
  exact h)
 have HG2 := LH (show ((w.alloc zO).alloc (.cells #[.int .i64 6, .string (str f), .string ⟨#[]⟩, .int .i64 0, .bool false, .bool false, .string ⟨#[]⟩, .bool false, .bool false, .string ⟨#[]⟩, .slice none 0 0, .slice none 0 0] 36)).heap.size = w.heap.size + 2 from by rw [World.size_alloc, World.size_alloc])
 have HWB := LH (show B ≤ ((w.alloc zO).alloc (.cells #[.int .i64 6, .string (str f), .string ⟨#[]⟩, .int .i64 0, .bool false, .bool false, .string ⟨#[]⟩, .bool false, .bool false, .string ⟨#[]⟩, .slice none 0 0, .slice none 0 0] 36)).heap.size from Nat.le_trans HSW.out ((Below.refl _ _).alloc (Nat.le_refl _) _).size)
 obtain ⟨hb0, c00, -, -, -, -⟩ := at_lt2 HR1.out a rfl 0 a_ rfl
 obtain ⟨hb1, c10, -, -, -, -⟩ := at_lt2 HR1.out a rfl 1 ⟨k1, x1, n1, a1, e1⟩ rfl
 rw [ea] at hb0 c00
 simp only [Nat.one_mul, Addr.add, e50, if_false] at hb1 c10
 rw [ha] at c00
 go_enter Tryd.func103, Tryd.ntmps103
 go_upto_region 18 with fail
 clear c00 c10
 generalize (w.alloc zO).alloc (.cells #[.int .i64 6, .string (str f), .string ⟨#[]⟩, .int .i64 0, .bool false, .bool false, .string ⟨#[]⟩, .bool false, .bool false, .string ⟨#[]⟩, .slice none 0 0, .slice none 0 0] 36) = w2 at *
 obtain ⟨hb0, c00, -, -, -, -⟩ := at_lt2 HR2.out a rfl 0 a_ rfl
 obtain ⟨hb1, c10, c11, c12, c13, c14⟩ := at_lt2 HR2.out a rfl 1 ⟨k1, x1, n1, a1, e1⟩ rfl
 rw [ea] at hb0 c00
 simp only [Nat.one_mul, Addr.add, e50, if_false] at hb1 c10 c11 c12 c13 c14
 rw [ha] at c00
 have HX2d := LH (HX2.out.drew)
 have HLX := LH (show w.heap.size + 1 < w2.drew.heap.size from by show _ < w2.heap.size; rw [HG2.out]; omega)
 go_region_law (first
  | (go_simp; go_at_call 108; refine (HLO.out _).mono ?_; (rintro e w6 ⟨rfl, hb6⟩); (have hx6 := HX2d.out.below hb6 HLX.out); (have xf4 := hx6.frozen 4); (have xf5 := hx6.frozen 5); (have xf6 := hx6.frozen 6); (have x4 := hx6.cell 4); (have x5 := hx6.cell 5); (have x6 := hx6.cell 6); (have lx6 := hx6.lt); (simp only [List.getElem?_toArray, List.getElem?_cons_zero, List.getElem?_cons_succ] at x4 x5 x6); (clear hx6)))
 all_goals
  have HB6 := LH (HB2.out.drew.trans (hb6.mono HB2.out.size))
  have HZ6 := LH (HZ2.out.drew.below hb6 (show w.heap.size < w2.heap.size by rw [HG2.out]; omega))
  have HX6 := LH (HX2d.out.below hb6 HLX.out)
  clear hb6 x4 x5 x6 xf4 xf5 xf6 lx6 c00 c10 c11 c12 c13 c14
  have hz1 : w.heap.size ≤ w.heap.size + 1 := Nat.le_succ _
  have hzx : w.heap.size ≠ w.heap.size + 1 := by omega
  have HB7 := LH (((HB6.out.setCell (p := ⟨w.heap.size + 1, 4, none⟩) hz1 (.bool lo.open_)).setCell (p := ⟨w.heap.size + 1, 5, none⟩) hz1 (.bool lo.in_)).setCell (p := ⟨w.heap.size + 1, 6, none⟩) hz1 (.string (str lo.text)))
  have HZ7 := LH (((HZ6.out.far (p := ⟨w.heap.size + 1, 4, none⟩) hzx (.bool lo.open_)).far (p := ⟨w.heap.size + 1, 5, none⟩) hzx (.bool lo.in_)).far (p := ⟨w.heap.size + 1, 6, none⟩) hzx (.string (str lo.text)))
  have HX7 := LH (show Blk (((w6.setCell ⟨w.heap.size + 1, 4, none⟩ (.bool lo.open_)).setCell ⟨w.heap.size + 1, 5, none⟩ (.bool lo.in_)).setCell ⟨w.heap.size + 1, 6, none⟩ (.string (str lo.text))) (w.heap.size + 1) 36 #[.int .i64 6, .string (str f), .string ⟨#[]⟩, .int .i64 0, .bool lo.open_, .bool lo.in_, .string (str lo.text), .bool false, .bool false, .string ⟨#[]⟩, .slice none 0 0, .slice none 0 0] from ((HX6.out.set_ 4 _).set_ 5 _).set_ 6 _)
  clear HZ6 HX6
  go_upto_region 19 with fail
  generalize ((w6.setCell ⟨w.heap.size + 1, 4, none⟩ (.bool lo.open_)).setCell ⟨w.heap.size + 1, 5, none⟩ (.bool lo.in_)).setCell ⟨w.heap.size + 1, 6, none⟩ (.string (str lo.text)) = w7 at *
  have HR7 := LH (HRB.out.belowW HBB.out HB7.out)
  obtain ⟨hb3, c30, c31, c32, c33, c34⟩ := at_lt2 HR7.out a rfl 3 ⟨k3, x3, n3, a3, e3⟩ rfl
  obtain ⟨hb4, c40, -, -, -, -⟩ := at_lt2 HR7.out a rfl 4 e_ rfl
  simp only [Nat.reduceMul, Addr.add, e150, if_false] at hb3 c30 c31 c32 c33 c34
  simp only [Nat.reduceMul, Addr.add, e200, if_false] at hb4 c40
  rw [he] at c40
  have HX7d := LH (HX7.out.drew)
  have HLX7 := LH (show w.heap.size + 1 < w7.drew.heap.size from HX7.out.lt)
  go_region_law (first
   | (go_simp; go_at_call 108; refine (HHI.out _).mono ?_; (rintro e w8 ⟨rfl, hb8⟩); (have hx6 := HX7d.out.below hb8 HLX7.out); (have xf7 := hx6.frozen 7); (have xf8 := hx6.frozen 8); (have xf9 := hx6.frozen 9); (have x7 := hx6.cell 7); (have x8 := hx6.cell 8); (have x9 := hx6.cell 9); (have lx6 := hx6.lt); (simp only [List.getElem?_toArray, List.getElem?_cons_zero, List.getElem?_cons_succ] at x7 x8 x9); (clear hx6)))
  all_goals
   have HB8 := LH (HB7.out.drew.trans (hb8.mono HB7.out.size))
   have HZ8 := LH (HZ7.out.drew.below hb8 (show w.heap.size < w7.heap.size from HZ7.out.lt))
   have HX8 := LH (HX7d.out.below hb8 HLX7.out)
   clear hb8 x7 x8 x9 xf7 xf8 xf9 lx6 c30 c31 c32 c33 c34 c40
   have HB9 := LH (((HB8.out.setCell (p := ⟨w.heap.size + 1, 7, none⟩) hz1 (.bool hi.open_)).setCell (p := ⟨w.heap.size + 1, 8, none⟩) hz1 (.bool hi.in_)).setCell (p := ⟨w.heap.size + 1, 9, none⟩) hz1 (.string (str hi.text)))
   have HZ9 := LH (((HZ8.out.far (p := ⟨w.heap.size + 1, 7, none⟩) hzx (.bool hi.open_)).far (p := ⟨w.heap.size + 1, 8, none⟩) hzx (.bool hi.in_)).far (p := ⟨w.heap.size + 1, 9, none⟩) hzx (.string (str hi.text)))
   have HX9 := LH (show Blk (((w8.setCell ⟨w.heap.size + 1, 7, none⟩ (.bool hi.open_)).setCell ⟨w.heap.size + 1, 8, none⟩ (.bool hi.in_)).setCell ⟨w.heap.size + 1, 9, none⟩ (.string (str hi.text))) (w.heap.size + 1) 36 #[.int .i64 6, .string (str f), .string ⟨#[]⟩, .int .i64 0, .bool lo.open_, .bool lo.in_, .string (str lo.text), .bool hi.open_, .bool hi.in_, .string (str hi.text), .slice none 0 0, .slice none 0 0] from ((HX8.out.set_ 7 _).set_ 8 _).set_ 9 _)
   clear HZ8 HX8
   go_upto_region 20 with fail
   generalize ((w8.setCell ⟨w.heap.size + 1, 7, none⟩ (.bool hi.open_)).setCell ⟨w.heap.size + 1, 8, none⟩ (.bool hi.in_)).setCell ⟨w.heap.size + 1, 9, none⟩ (.string (str hi.text)) = w9 at *
   have hzz := HX9.out
   obtain ⟨y0, y1, y2, y3, y4, y5, y6, y7, y8, y9, y10, y11, -, -, -, -, -, -, -, -, -, -, -, -, ly⟩ := blk12 hzz
   clear hzz
   have hzz := HZ9.out
   obtain ⟨z0, z1, z2, z3, z4, z5, z6, z7, z8, z9, z10, z11, fz0, fz1, fz2, fz3, fz4, fz5, fz6, fz7, fz8, fz9, fz10, fz11, lz⟩ := blk12 hzz; (try simp only [World.size_alloc] at lz)
   clear hzz
   go_wp2
   refine bodyPost_ret (v := NV.val ⟨6, f, [], 0, lo, hi, ⟨none, 0, 0⟩, ⟨none, 0, 0⟩⟩) ?_ rfl ?_
   ·simp [results, Tryd.results103, go_sem, NV.val, bd0, str, lz, fz0, fz1, fz2, fz3, fz4, fz5, fz6, fz7, fz8, fz9, fz10, fz11, z0, z1, z2, z3, z4, z5, z6, z7, z8, z9, z10, z11]
   ·exact RRet.box (F := fun _ => False) HB9.out rfl (.mk (RdF.nil _ _ _) (RdF.nil _ _ _) rfl fun i x t hx _ => by simp at hx) (fun b h => h.elim)
theorem ratom_span1013 (a_ c_ e_ : Lt) (k1 : Int) (x1 : List UInt8) (n1 a1 e1 k3 : Int) (x3 : List UInt8) (n3 a3 e3 : Int) (w : World) (B : Nat) (A : Option Addr) (k cap : Nat) (f : List UInt8) (h : RdL ltS w B (.slice A k cap) ([a_, ⟨k1, x1, n1, a1, e1⟩, c_, ⟨k3, x3, n3, a3, e3⟩, e_])) (hB : B ≤ w.heap.size) (ha : a_.kind = 10) (he : e_.kind = 13) (hs1 : sideT ⟨k1, x1, n1, a1, e1⟩ = true) (hs3 : sideT ⟨k3, x3, n3, a3, e3⟩ = true) :
  Calls Tryd.prog 103 #[.slice A k cap, .string (str f)] w (RRet [(0, .mk 6 f [] 0 (sideN ⟨k1, x1, n1, a1, e1⟩ true) (sideN ⟨k3, x3, n3, a3, e3⟩ false) [] [])] w) := by
 have hk : k = 5 := by
  obtain ⟨A', cap', e, -, -⟩ := h.open_
  injection e with e1 e2 e3
  all_goals (first | exact e2 | (rw [e2]; simp))
 subst hk
 have HB1 := LH (show Below w.heap.size w (w.alloc zO) from (Below.refl _ _).alloc (Nat.le_refl _) zO)
 have HR1 := LH (h.belowW hB HB1.out)
 have HZ1 := LH (Blk.new w 36 zA)
 have HSW := LH (show B ≤ (w.alloc zO).heap.size from Nat.le_trans hB HB1.out.size)
 have HSL := LH (show w.heap.size < (w.alloc zO).heap.size from by rw [World.size_alloc]; omega)
 have HRB := LH h; have HBB := LH hB
 clear h hB
 have h14 : (k1 == 14) = false := by simp [sideT, starT] at hs1; simp; omega
 obtain ⟨lo, hlo⟩ : ∃ lo, lo = sideN ⟨k1, x1, n1, a1, e1⟩ true := ⟨_, rfl⟩
 obtain ⟨hi, hhi⟩ : ∃ hi, hi = sideN ⟨k3, x3, n3, a3, e3⟩ false := ⟨_, rfl⟩
 rw [← hlo, ← hhi]
 have HLO := LH (show ∀ W, Calls Tryd.prog 108 #[.agg #[.int .i64 k1, .string (str x1), .int .i64 n1, .int .i64 a1, .int .i64 e1], .bool true] W (fun e w' => e = .returned (.agg #[.bool lo.open_, .bool lo.in_, .string (str lo.text)]) ∧ Below W.heap.size W w') from fun W => by
  rw [hlo]; exact rside_any ⟨k1, x1, n1, a1, e1⟩ true W hs1)
 have HHI := LH (show ∀ W, Calls Tryd.prog 108 #[.agg #[.int .i64 k3, .string (str x3), .int .i64 n3, .int .i64 a3, .int .i64 e3], .bool false] W (fun e w' => e = .returned (.agg #[.bool hi.open_, .bool hi.in_, .string (str hi.text)]) ∧ Below W.heap.size W w') from fun W => by
  rw [hhi]; exact rside_any ⟨k3, x3, n3, a3, e3⟩ false W hs3)
 clear hlo hhi hs1 hs3
 obtain ⟨a, rfl⟩ := some_of_rd HR1.out
 have e50 : ((5 : Nat) = 0) = False := by simp
 have e150 : ((15 : Nat) = 0) = False := by simp
 have e200 : ((20 : Nat) = 0) = False := by simp
 have ea : a.add (0 * 5) = a := by simp [Addr.add]
 have HB2 := LH (HB1.out.alloc HB1.out.size (.cells #[.int .i64 6, .string (str f), .string ⟨#[]⟩, .int .i64 0, .bool false, .bool false, .string ⟨#[]⟩, .bool false, .bool false, .string ⟨#[]⟩, .slice none 0 0, .slice none 0 0] 36))
 have HR2 := LH (HR1.out.belowW HSW.out ((Below.refl _ _).alloc (Nat.le_refl _) (.cells #[.int .i64 6, .string (str f), .string ⟨#[]⟩, .int .i64 0, .bool false, .bool false, .string ⟨#[]⟩, .bool false, .bool false, .string ⟨#[]⟩, .slice none 0 0, .slice none 0 0] 36)))
 have HZ2 := LH (HZ1.out.alloc (.cells #[.int .i64 6, .string (str f), .string ⟨#[]⟩, .int .i64 0, .bool false, .bool false, .string ⟨#[]⟩, .bool false, .bool false, .string ⟨#[]⟩, .slice none 0 0, .slice none 0 0] 36))
 have HX2 := LH (show Blk ((w.alloc zO).alloc (.cells #[.int .i64 6, .string (str f), .string ⟨#[]⟩, .int .i64 0, .bool false, .bool false, .string ⟨#[]⟩, .bool false, .bool false, .string ⟨#[]⟩, .slice none 0 0, .slice none 0 0] 36)) (w.heap.size + 1) 36 #[.int .i64 6, .string (str f), .string ⟨#[]⟩, .int .i64 0, .bool false, .bool false, .string ⟨#[]⟩, .bool false, .bool false, .string ⟨#[]⟩, .slice none 0 0, .slice none 0 0] from by
  have h := Blk.new (w.alloc zO) 36 #[.int .i64 6, .string (str f), .string ⟨#[]⟩, .int .i64 0, .bool false, .bool false, .string ⟨#[]⟩, .bool false, .bool false, .string ⟨#[]⟩, .slice none 0 0, .slice none 0 0]
  rw [World.size_alloc] at h
  exact h)
 have HG2 := LH (show ((w.alloc zO).alloc (.cells #[.int .i64 6, .string (str f), .string ⟨#[]⟩, .int .i64 0, .bool false, .bool false, .string ⟨#[]⟩, .bool false, .bool false, .string ⟨#[]⟩, .slice none 0 0, .slice none 0 0] 36)).heap.size = w.heap.size + 2 from by rw [World.size_alloc, World.size_alloc])
 have HWB := LH (show B ≤ ((w.alloc zO).alloc (.cells #[.int .i64 6, .string (str f), .string ⟨#[]⟩, .int .i64 0, .bool false, .bool false, .string ⟨#[]⟩, .bool false, .bool false, .string ⟨#[]⟩, .slice none 0 0, .slice none 0 0] 36)).heap.size from Nat.le_trans HSW.out ((Below.refl _ _).alloc (Nat.le_refl _) _).size)
 obtain ⟨hb0, c00, -, -, -, -⟩ := at_lt2 HR1.out a rfl 0 a_ rfl
 obtain ⟨hb1, c10, -, -, -, -⟩ := at_lt2 HR1.out a rfl 1 ⟨k1, x1, n1, a1, e1⟩ rfl
 rw [ea] at hb0 c00
 simp only [Nat.one_mul, Addr.add, e50, if_false] at hb1 c10
 rw [ha] at c00
 go_enter Tryd.func103, Tryd.ntmps103
 go_upto_region 18 with fail
 clear c00 c10
 generalize (w.alloc zO).alloc (.cells #[.int .i64 6, .string (str f), .string ⟨#[]⟩, .int .i64 0, .bool false, .bool false, .string ⟨#[]⟩, .bool false, .bool false, .string ⟨#[]⟩, .slice none 0 0, .slice none 0 0] 36) = w2 at *
 obtain ⟨hb0, c00, -, -, -, -⟩ := at_lt2 HR2.out a rfl 0 a_ rfl
 obtain ⟨hb1, c10, c11, c12, c13, c14⟩ := at_lt2 HR2.out a rfl 1 ⟨k1, x1, n1, a1, e1⟩ rfl
 rw [ea] at hb0 c00
 simp only [Nat.one_mul, Addr.add, e50, if_false] at hb1 c10 c11 c12 c13 c14
 rw [ha] at c00
 have HX2d := LH (HX2.out.drew)
 have HLX := LH (show w.heap.size + 1 < w2.drew.heap.size from by show _ < w2.heap.size; rw [HG2.out]; omega)
 go_region_law (first
  | (go_simp; go_at_call 108; refine (HLO.out _).mono ?_; (rintro e w6 ⟨rfl, hb6⟩); (have hx6 := HX2d.out.below hb6 HLX.out); (have xf4 := hx6.frozen 4); (have xf5 := hx6.frozen 5); (have xf6 := hx6.frozen 6); (have x4 := hx6.cell 4); (have x5 := hx6.cell 5); (have x6 := hx6.cell 6); (have lx6 := hx6.lt); (simp only [List.getElem?_toArray, List.getElem?_cons_zero, List.getElem?_cons_succ] at x4 x5 x6); (clear hx6)))
 all_goals
  have HB6 := LH (HB2.out.drew.trans (hb6.mono HB2.out.size))
  have HZ6 := LH (HZ2.out.drew.below hb6 (show w.heap.size < w2.heap.size by rw [HG2.out]; omega))
  have HX6 := LH (HX2d.out.below hb6 HLX.out)
  clear hb6 x4 x5 x6 xf4 xf5 xf6 lx6 c00 c10 c11 c12 c13 c14
  have hz1 : w.heap.size ≤ w.heap.size + 1 := Nat.le_succ _
  have hzx : w.heap.size ≠ w.heap.size + 1 := by omega
  have HB7 := LH (((HB6.out.setCell (p := ⟨w.heap.size + 1, 4, none⟩) hz1 (.bool lo.open_)).setCell (p := ⟨w.heap.size + 1, 5, none⟩) hz1 (.bool lo.in_)).setCell (p := ⟨w.heap.size + 1, 6, none⟩) hz1 (.string (str lo.text)))
  have HZ7 := LH (((HZ6.out.far (p := ⟨w.heap.size + 1, 4, none⟩) hzx (.bool lo.open_)).far (p := ⟨w.heap.size + 1, 5, none⟩) hzx (.bool lo.in_)).far (p := ⟨w.heap.size + 1, 6, none⟩) hzx (.string (str lo.text)))
  have HX7 := LH (show Blk (((w6.setCell ⟨w.heap.size + 1, 4, none⟩ (.bool lo.open_)).setCell ⟨w.heap.size + 1, 5, none⟩ (.bool lo.in_)).setCell ⟨w.heap.size + 1, 6, none⟩ (.string (str lo.text))) (w.heap.size + 1) 36 #[.int .i64 6, .string (str f), .string ⟨#[]⟩, .int .i64 0, .bool lo.open_, .bool lo.in_, .string (str lo.text), .bool false, .bool false, .string ⟨#[]⟩, .slice none 0 0, .slice none 0 0] from ((HX6.out.set_ 4 _).set_ 5 _).set_ 6 _)
  clear HZ6 HX6
  go_upto_region 19 with fail
  generalize ((w6.setCell ⟨w.heap.size + 1, 4, none⟩ (.bool lo.open_)).setCell ⟨w.heap.size + 1, 5, none⟩ (.bool lo.in_)).setCell ⟨w.heap.size + 1, 6, none⟩ (.string (str lo.text)) = w7 at *
  have HR7 := LH (HRB.out.belowW HBB.out HB7.out)
  obtain ⟨hb3, c30, c31, c32, c33, c34⟩ := at_lt2 HR7.out a rfl 3 ⟨k3, x3, n3, a3, e3⟩ rfl
  obtain ⟨hb4, c40, -, -, -, -⟩ := at_lt2 HR7.out a rfl 4 e_ rfl
  simp only [Nat.reduceMul, Addr.add, e150, if_false] at hb3 c30 c31 c32 c33 c34
  simp only [Nat.reduceMul, Addr.add, e200, if_false] at hb4 c40
  rw [he] at c40
  have HX7d := LH (HX7.out.drew)
  have HLX7 := LH (show w.heap.size + 1 < w7.drew.heap.size from HX7.out.lt)
  go_region_law (first
   | (go_simp; go_at_call 108; refine (HHI.out _).mono ?_; (rintro e w8 ⟨rfl, hb8⟩); (have hx6 := HX7d.out.below hb8 HLX7.out); (have xf7 := hx6.frozen 7); (have xf8 := hx6.frozen 8); (have xf9 := hx6.frozen 9); (have x7 := hx6.cell 7); (have x8 := hx6.cell 8); (have x9 := hx6.cell 9); (have lx6 := hx6.lt); (simp only [List.getElem?_toArray, List.getElem?_cons_zero, List.getElem?_cons_succ] at x7 x8 x9); (clear hx6)))
  all_goals
   have HB8 := LH (HB7.out.drew.trans (hb8.mono HB7.out.size))
   have HZ8 := LH (HZ7.out.drew.below hb8 (show w.heap.size < w7.heap.size from HZ7.out.lt))
   have HX8 := LH (HX7d.out.below hb8 HLX7.out)
   clear hb8 x7 x8 x9 xf7 xf8 xf9 lx6 c30 c31 c32 c33 c34 c40
   have HB9 := LH (((HB8.out.setCell (p := ⟨w.heap.size + 1, 7, none⟩) hz1 (.bool hi.open_)).setCell (p := ⟨w.heap.size + 1, 8, none⟩) hz1 (.bool hi.in_)).setCell (p := ⟨w.heap.size + 1, 9, none⟩) hz1 (.string (str hi.text)))
   have HZ9 := LH (((HZ8.out.far (p := ⟨w.heap.size + 1, 7, none⟩) hzx (.bool hi.open_)).far (p := ⟨w.heap.size + 1, 8, none⟩) hzx (.bool hi.in_)).far (p := ⟨w.heap.size + 1, 9, none⟩) hzx (.string (str hi.text)))
   have HX9 := LH (show Blk (((w8.setCell ⟨w.heap.size + 1, 7, none⟩ (.bool hi.open_)).setCell ⟨w.heap.size + 1, 8, none⟩ (.bool hi.in_)).setCell ⟨w.heap.size + 1, 9, none⟩ (.string (str hi.text))) (w.heap.size + 1) 36 #[.int .i64 6, .string (str f), .string ⟨#[]⟩, .int .i64 0, .bool lo.open_, .bool lo.in_, .string (str lo.text), .bool hi.open_, .bool hi.in_, .string (str hi.text), .slice none 0 0, .slice none 0 0] from ((HX8.out.set_ 7 _).set_ 8 _).set_ 9 _)
   clear HZ8 HX8
   go_upto_region 20 with fail
   generalize ((w8.setCell ⟨w.heap.size + 1, 7, none⟩ (.bool hi.open_)).setCell ⟨w.heap.size + 1, 8, none⟩ (.bool hi.in_)).setCell ⟨w.heap.size + 1, 9, none⟩ (.string (str hi.text)) = w9 at *
   have hzz := HX9.out
   obtain ⟨y0, y1, y2, y3, y4, y5, y6, y7, y8, y9, y10, y11, -, -, -, -, -, -, -, -, -, -, -, -, ly⟩ := blk12 hzz
   clear hzz
   have hzz := HZ9.out
   obtain ⟨z0, z1, z2, z3, z4, z5, z6, z7, z8, z9, z10, z11, fz0, fz1, fz2, fz3, fz4, fz5, fz6, fz7, fz8, fz9, fz10, fz11, lz⟩ := blk12 hzz; (try simp only [World.size_alloc] at lz)
   clear hzz
   go_wp2
   refine bodyPost_ret (v := NV.val ⟨6, f, [], 0, lo, hi, ⟨none, 0, 0⟩, ⟨none, 0, 0⟩⟩) ?_ rfl ?_
   ·simp [results, Tryd.results103, go_sem, NV.val, bd0, str, lz, fz0, fz1, fz2, fz3, fz4, fz5, fz6, fz7, fz8, fz9, fz10, fz11, z0, z1, z2, z3, z4, z5, z6, z7, z8, z9, z10, z11]
   ·exact RRet.box (F := fun _ => False) HB9.out rfl (.mk (RdF.nil _ _ _) (RdF.nil _ _ _) rfl fun i x t hx _ => by simp at hx) (fun b h => h.elim)
theorem ratom_span1211 (a_ c_ e_ : Lt) (k1 : Int) (x1 : List UInt8) (n1 a1 e1 k3 : Int) (x3 : List UInt8) (n3 a3 e3 : Int) (w : World) (B : Nat) (A : Option Addr) (k cap : Nat) (f : List UInt8) (h : RdL ltS w B (.slice A k cap) ([a_, ⟨k1, x1, n1, a1, e1⟩, c_, ⟨k3, x3, n3, a3, e3⟩, e_])) (hB : B ≤ w.heap.size) (ha : a_.kind = 12) (he : e_.kind = 11) (hs1 : sideT ⟨k1, x1, n1, a1, e1⟩ = true) (hs3 : sideT ⟨k3, x3, n3, a3, e3⟩ = true) :
  Calls Tryd.prog 103 #[.slice A k cap, .string (str f)] w (RRet [(0, .mk 6 f [] 0 (sideN ⟨k1, x1, n1, a1, e1⟩ false) (sideN ⟨k3, x3, n3, a3, e3⟩ true) [] [])] w) := by
 have hk : k = 5 := by
  obtain ⟨A', cap', e, -, -⟩ := h.open_
  injection e with e1 e2 e3
  all_goals (first | exact e2 | (rw [e2]; simp))
 subst hk
 have HB1 := LH (show Below w.heap.size w (w.alloc zO) from (Below.refl _ _).alloc (Nat.le_refl _) zO)
 have HR1 := LH (h.belowW hB HB1.out)
 have HZ1 := LH (Blk.new w 36 zA)
 have HSW := LH (show B ≤ (w.alloc zO).heap.size from Nat.le_trans hB HB1.out.size)
 have HSL := LH (show w.heap.size < (w.alloc zO).heap.size from by rw [World.size_alloc]; omega)
 have HRB := LH h; have HBB := LH hB
 clear h hB
 have h14 : (k1 == 14) = false := by simp [sideT, starT] at hs1; simp; omega
 obtain ⟨lo, hlo⟩ : ∃ lo, lo = sideN ⟨k1, x1, n1, a1, e1⟩ false := ⟨_, rfl⟩
 obtain ⟨hi, hhi⟩ : ∃ hi, hi = sideN ⟨k3, x3, n3, a3, e3⟩ true := ⟨_, rfl⟩
 rw [← hlo, ← hhi]
 have HLO := LH (show ∀ W, Calls Tryd.prog 108 #[.agg #[.int .i64 k1, .string (str x1), .int .i64 n1, .int .i64 a1, .int .i64 e1], .bool false] W (fun e w' => e = .returned (.agg #[.bool lo.open_, .bool lo.in_, .string (str lo.text)]) ∧ Below W.heap.size W w') from fun W => by
  rw [hlo]; exact rside_any ⟨k1, x1, n1, a1, e1⟩ false W hs1)
 have HHI := LH (show ∀ W, Calls Tryd.prog 108 #[.agg #[.int .i64 k3, .string (str x3), .int .i64 n3, .int .i64 a3, .int .i64 e3], .bool true] W (fun e w' => e = .returned (.agg #[.bool hi.open_, .bool hi.in_, .string (str hi.text)]) ∧ Below W.heap.size W w') from fun W => by
  rw [hhi]; exact rside_any ⟨k3, x3, n3, a3, e3⟩ true W hs3)
 clear hlo hhi hs1 hs3
 obtain ⟨a, rfl⟩ := some_of_rd HR1.out
 have e50 : ((5 : Nat) = 0) = False := by simp
 have e150 : ((15 : Nat) = 0) = False := by simp
 have e200 : ((20 : Nat) = 0) = False := by simp
 have ea : a.add (0 * 5) = a := by simp [Addr.add]
 have HB2 := LH (HB1.out.alloc HB1.out.size (.cells #[.int .i64 6, .string (str f), .string ⟨#[]⟩, .int .i64 0, .bool false, .bool false, .string ⟨#[]⟩, .bool false, .bool false, .string ⟨#[]⟩, .slice none 0 0, .slice none 0 0] 36))
 have HR2 := LH (HR1.out.belowW HSW.out ((Below.refl _ _).alloc (Nat.le_refl _) (.cells #[.int .i64 6, .string (str f), .string ⟨#[]⟩, .int .i64 0, .bool false, .bool false, .string ⟨#[]⟩, .bool false, .bool false, .string ⟨#[]⟩, .slice none 0 0, .slice none 0 0] 36)))
 have HZ2 := LH (HZ1.out.alloc (.cells #[.int .i64 6, .string (str f), .string ⟨#[]⟩, .int .i64 0, .bool false, .bool false, .string ⟨#[]⟩, .bool false, .bool false, .string ⟨#[]⟩, .slice none 0 0, .slice none 0 0] 36))
 have HX2 := LH (show Blk ((w.alloc zO).alloc (.cells #[.int .i64 6, .string (str f), .string ⟨#[]⟩, .int .i64 0, .bool false, .bool false, .string ⟨#[]⟩, .bool false, .bool false, .string ⟨#[]⟩, .slice none 0 0, .slice none 0 0] 36)) (w.heap.size + 1) 36 #[.int .i64 6, .string (str f), .string ⟨#[]⟩, .int .i64 0, .bool false, .bool false, .string ⟨#[]⟩, .bool false, .bool false, .string ⟨#[]⟩, .slice none 0 0, .slice none 0 0] from by
  have h := Blk.new (w.alloc zO) 36 #[.int .i64 6, .string (str f), .string ⟨#[]⟩, .int .i64 0, .bool false, .bool false, .string ⟨#[]⟩, .bool false, .bool false, .string ⟨#[]⟩, .slice none 0 0, .slice none 0 0]
  rw [World.size_alloc] at h
  exact h)
 have HG2 := LH (show ((w.alloc zO).alloc (.cells #[.int .i64 6, .string (str f), .string ⟨#[]⟩, .int .i64 0, .bool false, .bool false, .string ⟨#[]⟩, .bool false, .bool false, .string ⟨#[]⟩, .slice none 0 0, .slice none 0 0] 36)).heap.size = w.heap.size + 2 from by rw [World.size_alloc, World.size_alloc])
 have HWB := LH (show B ≤ ((w.alloc zO).alloc (.cells #[.int .i64 6, .string (str f), .string ⟨#[]⟩, .int .i64 0, .bool false, .bool false, .string ⟨#[]⟩, .bool false, .bool false, .string ⟨#[]⟩, .slice none 0 0, .slice none 0 0] 36)).heap.size from Nat.le_trans HSW.out ((Below.refl _ _).alloc (Nat.le_refl _) _).size)
 obtain ⟨hb0, c00, -, -, -, -⟩ := at_lt2 HR1.out a rfl 0 a_ rfl
 obtain ⟨hb1, c10, -, -, -, -⟩ := at_lt2 HR1.out a rfl 1 ⟨k1, x1, n1, a1, e1⟩ rfl
 rw [ea] at hb0 c00
 simp only [Nat.one_mul, Addr.add, e50, if_false] at hb1 c10
 rw [ha] at c00
 go_enter Tryd.func103, Tryd.ntmps103
 go_upto_region 18 with fail
 clear c00 c10
 generalize (w.alloc zO).alloc (.cells #[.int .i64 6, .string (str f), .string ⟨#[]⟩, .int .i64 0, .bool false, .bool false, .string ⟨#[]⟩, .bool false, .bool false, .string ⟨#[]⟩, .slice none 0 0, .slice none 0 0] 36) = w2 at *
 obtain ⟨hb0, c00, -, -, -, -⟩ := at_lt2 HR2.out a rfl 0 a_ rfl
 obtain ⟨hb1, c10, c11, c12, c13, c14⟩ := at_lt2 HR2.out a rfl 1 ⟨k1, x1, n1, a1, e1⟩ rfl
 rw [ea] at hb0 c00
 simp only [Nat.one_mul, Addr.add, e50, if_false] at hb1 c10 c11 c12 c13 c14
 rw [ha] at c00
 have HX2d := LH (HX2.out.drew)
 have HLX := LH (show w.heap.size + 1 < w2.drew.heap.size from by show _ < w2.heap.size; rw [HG2.out]; omega)
 go_region_law (first
  | (go_simp; go_at_call 108; refine (HLO.out _).mono ?_; (rintro e w6 ⟨rfl, hb6⟩); (have hx6 := HX2d.out.below hb6 HLX.out); (have xf4 := hx6.frozen 4); (have xf5 := hx6.frozen 5); (have xf6 := hx6.frozen 6); (have x4 := hx6.cell 4); (have x5 := hx6.cell 5); (have x6 := hx6.cell 6); (have lx6 := hx6.lt); (simp only [List.getElem?_toArray, List.getElem?_cons_zero, List.getElem?_cons_succ] at x4 x5 x6); (clear hx6)))
 all_goals
  have HB6 := LH (HB2.out.drew.trans (hb6.mono HB2.out.size))
  have HZ6 := LH (HZ2.out.drew.below hb6 (show w.heap.size < w2.heap.size by rw [HG2.out]; omega))
  have HX6 := LH (HX2d.out.below hb6 HLX.out)
  clear hb6 x4 x5 x6 xf4 xf5 xf6 lx6 c00 c10 c11 c12 c13 c14
  have hz1 : w.heap.size ≤ w.heap.size + 1 := Nat.le_succ _
  have hzx : w.heap.size ≠ w.heap.size + 1 := by omega
  have HB7 := LH (((HB6.out.setCell (p := ⟨w.heap.size + 1, 4, none⟩) hz1 (.bool lo.open_)).setCell (p := ⟨w.heap.size + 1, 5, none⟩) hz1 (.bool lo.in_)).setCell (p := ⟨w.heap.size + 1, 6, none⟩) hz1 (.string (str lo.text)))
  have HZ7 := LH (((HZ6.out.far (p := ⟨w.heap.size + 1, 4, none⟩) hzx (.bool lo.open_)).far (p := ⟨w.heap.size + 1, 5, none⟩) hzx (.bool lo.in_)).far (p := ⟨w.heap.size + 1, 6, none⟩) hzx (.string (str lo.text)))
  have HX7 := LH (show Blk (((w6.setCell ⟨w.heap.size + 1, 4, none⟩ (.bool lo.open_)).setCell ⟨w.heap.size + 1, 5, none⟩ (.bool lo.in_)).setCell ⟨w.heap.size + 1, 6, none⟩ (.string (str lo.text))) (w.heap.size + 1) 36 #[.int .i64 6, .string (str f), .string ⟨#[]⟩, .int .i64 0, .bool lo.open_, .bool lo.in_, .string (str lo.text), .bool false, .bool false, .string ⟨#[]⟩, .slice none 0 0, .slice none 0 0] from ((HX6.out.set_ 4 _).set_ 5 _).set_ 6 _)
  clear HZ6 HX6
  go_upto_region 19 with fail
  generalize ((w6.setCell ⟨w.heap.size + 1, 4, none⟩ (.bool lo.open_)).setCell ⟨w.heap.size + 1, 5, none⟩ (.bool lo.in_)).setCell ⟨w.heap.size + 1, 6, none⟩ (.string (str lo.text)) = w7 at *
  have HR7 := LH (HRB.out.belowW HBB.out HB7.out)
  obtain ⟨hb3, c30, c31, c32, c33, c34⟩ := at_lt2 HR7.out a rfl 3 ⟨k3, x3, n3, a3, e3⟩ rfl
  obtain ⟨hb4, c40, -, -, -, -⟩ := at_lt2 HR7.out a rfl 4 e_ rfl
  simp only [Nat.reduceMul, Addr.add, e150, if_false] at hb3 c30 c31 c32 c33 c34
  simp only [Nat.reduceMul, Addr.add, e200, if_false] at hb4 c40
  rw [he] at c40
  have HX7d := LH (HX7.out.drew)
  have HLX7 := LH (show w.heap.size + 1 < w7.drew.heap.size from HX7.out.lt)
  go_region_law (first
   | (go_simp; go_at_call 108; refine (HHI.out _).mono ?_; (rintro e w8 ⟨rfl, hb8⟩); (have hx6 := HX7d.out.below hb8 HLX7.out); (have xf7 := hx6.frozen 7); (have xf8 := hx6.frozen 8); (have xf9 := hx6.frozen 9); (have x7 := hx6.cell 7); (have x8 := hx6.cell 8); (have x9 := hx6.cell 9); (have lx6 := hx6.lt); (simp only [List.getElem?_toArray, List.getElem?_cons_zero, List.getElem?_cons_succ] at x7 x8 x9); (clear hx6)))
  all_goals
   have HB8 := LH (HB7.out.drew.trans (hb8.mono HB7.out.size))
   have HZ8 := LH (HZ7.out.drew.below hb8 (show w.heap.size < w7.heap.size from HZ7.out.lt))
   have HX8 := LH (HX7d.out.below hb8 HLX7.out)
   clear hb8 x7 x8 x9 xf7 xf8 xf9 lx6 c30 c31 c32 c33 c34 c40
   have HB9 := LH (((HB8.out.setCell (p := ⟨w.heap.size + 1, 7, none⟩) hz1 (.bool hi.open_)).setCell (p := ⟨w.heap.size + 1, 8, none⟩) hz1 (.bool hi.in_)).setCell (p := ⟨w.heap.size + 1, 9, none⟩) hz1 (.string (str hi.text)))
   have HZ9 := LH (((HZ8.out.far (p := ⟨w.heap.size + 1, 7, none⟩) hzx (.bool hi.open_)).far (p := ⟨w.heap.size + 1, 8, none⟩) hzx (.bool hi.in_)).far (p := ⟨w.heap.size + 1, 9, none⟩) hzx (.string (str hi.text)))
   have HX9 := LH (show Blk (((w8.setCell ⟨w.heap.size + 1, 7, none⟩ (.bool hi.open_)).setCell ⟨w.heap.size + 1, 8, none⟩ (.bool hi.in_)).setCell ⟨w.heap.size + 1, 9, none⟩ (.string (str hi.text))) (w.heap.size + 1) 36 #[.int .i64 6, .string (str f), .string ⟨#[]⟩, .int .i64 0, .bool lo.open_, .bool lo.in_, .string (str lo.text), .bool hi.open_, .bool hi.in_, .string (str hi.text), .slice none 0 0, .slice none 0 0] from ((HX8.out.set_ 7 _).set_ 8 _).set_ 9 _)
   clear HZ8 HX8
   go_upto_region 20 with fail
   generalize ((w8.setCell ⟨w.heap.size + 1, 7, none⟩ (.bool hi.open_)).setCell ⟨w.heap.size + 1, 8, none⟩ (.bool hi.in_)).setCell ⟨w.heap.size + 1, 9, none⟩ (.string (str hi.text)) = w9 at *
   have hzz := HX9.out
   obtain ⟨y0, y1, y2, y3, y4, y5, y6, y7, y8, y9, y10, y11, -, -, -, -, -, -, -, -, -, -, -, -, ly⟩ := blk12 hzz
   clear hzz
   have hzz := HZ9.out
   obtain ⟨z0, z1, z2, z3, z4, z5, z6, z7, z8, z9, z10, z11, fz0, fz1, fz2, fz3, fz4, fz5, fz6, fz7, fz8, fz9, fz10, fz11, lz⟩ := blk12 hzz; (try simp only [World.size_alloc] at lz)
   clear hzz
   go_wp2
   refine bodyPost_ret (v := NV.val ⟨6, f, [], 0, lo, hi, ⟨none, 0, 0⟩, ⟨none, 0, 0⟩⟩) ?_ rfl ?_
   ·simp [results, Tryd.results103, go_sem, NV.val, bd0, str, lz, fz0, fz1, fz2, fz3, fz4, fz5, fz6, fz7, fz8, fz9, fz10, fz11, z0, z1, z2, z3, z4, z5, z6, z7, z8, z9, z10, z11]
   ·exact RRet.box (F := fun _ => False) HB9.out rfl (.mk (RdF.nil _ _ _) (RdF.nil _ _ _) rfl fun i x t hx _ => by simp at hx) (fun b h => h.elim)
theorem ratom_span1213 (a_ c_ e_ : Lt) (k1 : Int) (x1 : List UInt8) (n1 a1 e1 k3 : Int) (x3 : List UInt8) (n3 a3 e3 : Int) (w : World) (B : Nat) (A : Option Addr) (k cap : Nat) (f : List UInt8) (h : RdL ltS w B (.slice A k cap) ([a_, ⟨k1, x1, n1, a1, e1⟩, c_, ⟨k3, x3, n3, a3, e3⟩, e_])) (hB : B ≤ w.heap.size) (ha : a_.kind = 12) (he : e_.kind = 13) (hs1 : sideT ⟨k1, x1, n1, a1, e1⟩ = true) (hs3 : sideT ⟨k3, x3, n3, a3, e3⟩ = true) :
  Calls Tryd.prog 103 #[.slice A k cap, .string (str f)] w (RRet [(0, .mk 6 f [] 0 (sideN ⟨k1, x1, n1, a1, e1⟩ false) (sideN ⟨k3, x3, n3, a3, e3⟩ false) [] [])] w) := by
 have hk : k = 5 := by
  obtain ⟨A', cap', e, -, -⟩ := h.open_
  injection e with e1 e2 e3
  all_goals (first | exact e2 | (rw [e2]; simp))
 subst hk
 have HB1 := LH (show Below w.heap.size w (w.alloc zO) from (Below.refl _ _).alloc (Nat.le_refl _) zO)
 have HR1 := LH (h.belowW hB HB1.out)
 have HZ1 := LH (Blk.new w 36 zA)
 have HSW := LH (show B ≤ (w.alloc zO).heap.size from Nat.le_trans hB HB1.out.size)
 have HSL := LH (show w.heap.size < (w.alloc zO).heap.size from by rw [World.size_alloc]; omega)
 have HRB := LH h; have HBB := LH hB
 clear h hB
 have h14 : (k1 == 14) = false := by simp [sideT, starT] at hs1; simp; omega
 obtain ⟨lo, hlo⟩ : ∃ lo, lo = sideN ⟨k1, x1, n1, a1, e1⟩ false := ⟨_, rfl⟩
 obtain ⟨hi, hhi⟩ : ∃ hi, hi = sideN ⟨k3, x3, n3, a3, e3⟩ false := ⟨_, rfl⟩
 rw [← hlo, ← hhi]
 have HLO := LH (show ∀ W, Calls Tryd.prog 108 #[.agg #[.int .i64 k1, .string (str x1), .int .i64 n1, .int .i64 a1, .int .i64 e1], .bool false] W (fun e w' => e = .returned (.agg #[.bool lo.open_, .bool lo.in_, .string (str lo.text)]) ∧ Below W.heap.size W w') from fun W => by
  rw [hlo]; exact rside_any ⟨k1, x1, n1, a1, e1⟩ false W hs1)
 have HHI := LH (show ∀ W, Calls Tryd.prog 108 #[.agg #[.int .i64 k3, .string (str x3), .int .i64 n3, .int .i64 a3, .int .i64 e3], .bool false] W (fun e w' => e = .returned (.agg #[.bool hi.open_, .bool hi.in_, .string (str hi.text)]) ∧ Below W.heap.size W w') from fun W => by
  rw [hhi]; exact rside_any ⟨k3, x3, n3, a3, e3⟩ false W hs3)
 clear hlo hhi hs1 hs3
 obtain ⟨a, rfl⟩ := some_of_rd HR1.out
 have e50 : ((5 : Nat) = 0) = False := by simp
 have e150 : ((15 : Nat) = 0) = False := by simp
 have e200 : ((20 : Nat) = 0) = False := by simp
 have ea : a.add (0 * 5) = a := by simp [Addr.add]
 have HB2 := LH (HB1.out.alloc HB1.out.size (.cells #[.int .i64 6, .string (str f), .string ⟨#[]⟩, .int .i64 0, .bool false, .bool false, .string ⟨#[]⟩, .bool false, .bool false, .string ⟨#[]⟩, .slice none 0 0, .slice none 0 0] 36))
 have HR2 := LH (HR1.out.belowW HSW.out ((Below.refl _ _).alloc (Nat.le_refl _) (.cells #[.int .i64 6, .string (str f), .string ⟨#[]⟩, .int .i64 0, .bool false, .bool false, .string ⟨#[]⟩, .bool false, .bool false, .string ⟨#[]⟩, .slice none 0 0, .slice none 0 0] 36)))
 have HZ2 := LH (HZ1.out.alloc (.cells #[.int .i64 6, .string (str f), .string ⟨#[]⟩, .int .i64 0, .bool false, .bool false, .string ⟨#[]⟩, .bool false, .bool false, .string ⟨#[]⟩, .slice none 0 0, .slice none 0 0] 36))
 have HX2 := LH (show Blk ((w.alloc zO).alloc (.cells #[.int .i64 6, .string (str f), .string ⟨#[]⟩, .int .i64 0, .bool false, .bool false, .string ⟨#[]⟩, .bool false, .bool false, .string ⟨#[]⟩, .slice none 0 0, .slice none 0 0] 36)) (w.heap.size + 1) 36 #[.int .i64 6, .string (str f), .string ⟨#[]⟩, .int .i64 0, .bool false, .bool false, .string ⟨#[]⟩, .bool false, .bool false, .string ⟨#[]⟩, .slice none 0 0, .slice none 0 0] from by
  have h := Blk.new (w.alloc zO) 36 #[.int .i64 6, .string (str f), .string ⟨#[]⟩, .int .i64 0, .bool false, .bool false, .string ⟨#[]⟩, .bool false, .bool false, .string ⟨#[]⟩, .slice none 0 0, .slice none 0 0]
  rw [World.size_alloc] at h
  exact h)
 have HG2 := LH (show ((w.alloc zO).alloc (.cells #[.int .i64 6, .string (str f), .string ⟨#[]⟩, .int .i64 0, .bool false, .bool false, .string ⟨#[]⟩, .bool false, .bool false, .string ⟨#[]⟩, .slice none 0 0, .slice none 0 0] 36)).heap.size = w.heap.size + 2 from by rw [World.size_alloc, World.size_alloc])
 have HWB := LH (show B ≤ ((w.alloc zO).alloc (.cells #[.int .i64 6, .string (str f), .string ⟨#[]⟩, .int .i64 0, .bool false, .bool false, .string ⟨#[]⟩, .bool false, .bool false, .string ⟨#[]⟩, .slice none 0 0, .slice none 0 0] 36)).heap.size from Nat.le_trans HSW.out ((Below.refl _ _).alloc (Nat.le_refl _) _).size)
 obtain ⟨hb0, c00, -, -, -, -⟩ := at_lt2 HR1.out a rfl 0 a_ rfl
 obtain ⟨hb1, c10, -, -, -, -⟩ := at_lt2 HR1.out a rfl 1 ⟨k1, x1, n1, a1, e1⟩ rfl
 rw [ea] at hb0 c00
 simp only [Nat.one_mul, Addr.add, e50, if_false] at hb1 c10
 rw [ha] at c00
 go_enter Tryd.func103, Tryd.ntmps103
 go_upto_region 18 with fail
 clear c00 c10
 generalize (w.alloc zO).alloc (.cells #[.int .i64 6, .string (str f), .string ⟨#[]⟩, .int .i64 0, .bool false, .bool false, .string ⟨#[]⟩, .bool false, .bool false, .string ⟨#[]⟩, .slice none 0 0, .slice none 0 0] 36) = w2 at *
 obtain ⟨hb0, c00, -, -, -, -⟩ := at_lt2 HR2.out a rfl 0 a_ rfl
 obtain ⟨hb1, c10, c11, c12, c13, c14⟩ := at_lt2 HR2.out a rfl 1 ⟨k1, x1, n1, a1, e1⟩ rfl
 rw [ea] at hb0 c00
 simp only [Nat.one_mul, Addr.add, e50, if_false] at hb1 c10 c11 c12 c13 c14
 rw [ha] at c00
 have HX2d := LH (HX2.out.drew)
 have HLX := LH (show w.heap.size + 1 < w2.drew.heap.size from by show _ < w2.heap.size; rw [HG2.out]; omega)
 go_region_law (first
  | (go_simp; go_at_call 108; refine (HLO.out _).mono ?_; (rintro e w6 ⟨rfl, hb6⟩); (have hx6 := HX2d.out.below hb6 HLX.out); (have xf4 := hx6.frozen 4); (have xf5 := hx6.frozen 5); (have xf6 := hx6.frozen 6); (have x4 := hx6.cell 4); (have x5 := hx6.cell 5); (have x6 := hx6.cell 6); (have lx6 := hx6.lt); (simp only [List.getElem?_toArray, List.getElem?_cons_zero, List.getElem?_cons_succ] at x4 x5 x6); (clear hx6)))
 all_goals
  have HB6 := LH (HB2.out.drew.trans (hb6.mono HB2.out.size))
  have HZ6 := LH (HZ2.out.drew.below hb6 (show w.heap.size < w2.heap.size by rw [HG2.out]; omega))
  have HX6 := LH (HX2d.out.below hb6 HLX.out)
  clear hb6 x4 x5 x6 xf4 xf5 xf6 lx6 c00 c10 c11 c12 c13 c14
  have hz1 : w.heap.size ≤ w.heap.size + 1 := Nat.le_succ _
  have hzx : w.heap.size ≠ w.heap.size + 1 := by omega
  have HB7 := LH (((HB6.out.setCell (p := ⟨w.heap.size + 1, 4, none⟩) hz1 (.bool lo.open_)).setCell (p := ⟨w.heap.size + 1, 5, none⟩) hz1 (.bool lo.in_)).setCell (p := ⟨w.heap.size + 1, 6, none⟩) hz1 (.string (str lo.text)))
  have HZ7 := LH (((HZ6.out.far (p := ⟨w.heap.size + 1, 4, none⟩) hzx (.bool lo.open_)).far (p := ⟨w.heap.size + 1, 5, none⟩) hzx (.bool lo.in_)).far (p := ⟨w.heap.size + 1, 6, none⟩) hzx (.string (str lo.text)))
  have HX7 := LH (show Blk (((w6.setCell ⟨w.heap.size + 1, 4, none⟩ (.bool lo.open_)).setCell ⟨w.heap.size + 1, 5, none⟩ (.bool lo.in_)).setCell ⟨w.heap.size + 1, 6, none⟩ (.string (str lo.text))) (w.heap.size + 1) 36 #[.int .i64 6, .string (str f), .string ⟨#[]⟩, .int .i64 0, .bool lo.open_, .bool lo.in_, .string (str lo.text), .bool false, .bool false, .string ⟨#[]⟩, .slice none 0 0, .slice none 0 0] from ((HX6.out.set_ 4 _).set_ 5 _).set_ 6 _)
  clear HZ6 HX6
  go_upto_region 19 with fail
  generalize ((w6.setCell ⟨w.heap.size + 1, 4, none⟩ (.bool lo.open_)).setCell ⟨w.heap.size + 1, 5, none⟩ (.bool lo.in_)).setCell ⟨w.heap.size + 1, 6, none⟩ (.string (str lo.text)) = w7 at *
  have HR7 := LH (HRB.out.belowW HBB.out HB7.out)
  obtain ⟨hb3, c30, c31, c32, c33, c34⟩ := at_lt2 HR7.out a rfl 3 ⟨k3, x3, n3, a3, e3⟩ rfl
  obtain ⟨hb4, c40, -, -, -, -⟩ := at_lt2 HR7.out a rfl 4 e_ rfl
  simp only [Nat.reduceMul, Addr.add, e150, if_false] at hb3 c30 c31 c32 c33 c34
  simp only [Nat.reduceMul, Addr.add, e200, if_false] at hb4 c40
  rw [he] at c40
  have HX7d := LH (HX7.out.drew)
  have HLX7 := LH (show w.heap.size + 1 < w7.drew.heap.size from HX7.out.lt)
  go_region_law (first
   | (go_simp; go_at_call 108; refine (HHI.out _).mono ?_; (rintro e w8 ⟨rfl, hb8⟩); (have hx6 := HX7d.out.below hb8 HLX7.out); (have xf7 := hx6.frozen 7); (have xf8 := hx6.frozen 8); (have xf9 := hx6.frozen 9); (have x7 := hx6.cell 7); (have x8 := hx6.cell 8); (have x9 := hx6.cell 9); (have lx6 := hx6.lt); (simp only [List.getElem?_toArray, List.getElem?_cons_zero, List.getElem?_cons_succ] at x7 x8 x9); (clear hx6)))
  all_goals
   have HB8 := LH (HB7.out.drew.trans (hb8.mono HB7.out.size))
   have HZ8 := LH (HZ7.out.drew.below hb8 (show w.heap.size < w7.heap.size from HZ7.out.lt))
   have HX8 := LH (HX7d.out.below hb8 HLX7.out)
   clear hb8 x7 x8 x9 xf7 xf8 xf9 lx6 c30 c31 c32 c33 c34 c40
   have HB9 := LH (((HB8.out.setCell (p := ⟨w.heap.size + 1, 7, none⟩) hz1 (.bool hi.open_)).setCell (p := ⟨w.heap.size + 1, 8, none⟩) hz1 (.bool hi.in_)).setCell (p := ⟨w.heap.size + 1, 9, none⟩) hz1 (.string (str hi.text)))
   have HZ9 := LH (((HZ8.out.far (p := ⟨w.heap.size + 1, 7, none⟩) hzx (.bool hi.open_)).far (p := ⟨w.heap.size + 1, 8, none⟩) hzx (.bool hi.in_)).far (p := ⟨w.heap.size + 1, 9, none⟩) hzx (.string (str hi.text)))
   have HX9 := LH (show Blk (((w8.setCell ⟨w.heap.size + 1, 7, none⟩ (.bool hi.open_)).setCell ⟨w.heap.size + 1, 8, none⟩ (.bool hi.in_)).setCell ⟨w.heap.size + 1, 9, none⟩ (.string (str hi.text))) (w.heap.size + 1) 36 #[.int .i64 6, .string (str f), .string ⟨#[]⟩, .int .i64 0, .bool lo.open_, .bool lo.in_, .string (str lo.text), .bool hi.open_, .bool hi.in_, .string (str hi.text), .slice none 0 0, .slice none 0 0] from ((HX8.out.set_ 7 _).set_ 8 _).set_ 9 _)
   clear HZ8 HX8
   go_upto_region 20 with fail
   generalize ((w8.setCell ⟨w.heap.size + 1, 7, none⟩ (.bool hi.open_)).setCell ⟨w.heap.size + 1, 8, none⟩ (.bool hi.in_)).setCell ⟨w.heap.size + 1, 9, none⟩ (.string (str hi.text)) = w9 at *
   have hzz := HX9.out
   obtain ⟨y0, y1, y2, y3, y4, y5, y6, y7, y8, y9, y10, y11, -, -, -, -, -, -, -, -, -, -, -, -, ly⟩ := blk12 hzz
   clear hzz
   have hzz := HZ9.out
   obtain ⟨z0, z1, z2, z3, z4, z5, z6, z7, z8, z9, z10, z11, fz0, fz1, fz2, fz3, fz4, fz5, fz6, fz7, fz8, fz9, fz10, fz11, lz⟩ := blk12 hzz; (try simp only [World.size_alloc] at lz)
   clear hzz
   go_wp2
   refine bodyPost_ret (v := NV.val ⟨6, f, [], 0, lo, hi, ⟨none, 0, 0⟩, ⟨none, 0, 0⟩⟩) ?_ rfl ?_
   ·simp [results, Tryd.results103, go_sem, NV.val, bd0, str, lz, fz0, fz1, fz2, fz3, fz4, fz5, fz6, fz7, fz8, fz9, fz10, fz11, z0, z1, z2, z3, z4, z5, z6, z7, z8, z9, z10, z11]
   ·exact RRet.box (F := fun _ => False) HB9.out rfl (.mk (RdF.nil _ _ _) (RdF.nil _ _ _) rfl fun i x t hx _ => by simp at hx) (fun b h => h.elim)
end Go.Proofs.YtcomdkejpaoneaaDoor
end
