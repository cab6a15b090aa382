/- Merged for a claim by shake.py: Jbb Jbc Jbg Jbl Jca -/
import Derived.Test.YthcldpminmhgkaaDoorKxA
import Derived.Test.YthcldpminmhgkaaDoorKx32
import Derived.Test.YthcldpminmhgkaaDoorKx33
import Derived.Test.YthcldpminmhgkaaDoorKx38
import Derived.Test.YthcldpminmhgkaaDoorKx39
set_option maxRecDepth 100000
set_option maxHeartbeats 4000000
set_option linter.unusedSimpArgs false
set_option linter.unusedVariables false
section
namespace Go.Proofs.YthcldpminmhgkaaDoor
open Go.RowKit
def orN : Nd := .mk 11 [] [] 0 bd0 bd0 [] [termN [98], termN [99]]
def firstN : Nd := .mk 10 [] [] 0 bd0 bd0 [] [termN [97], orN]
def nvOr (g : Nat) : NV := ⟨11, [], [], 0, bd0, bd0, ⟨none, 0, 0⟩, ⟨some ⟨g, 0, none⟩, 2, 2⟩⟩
def nvFirst (g : Nat) : NV := ⟨10, [], [], 0, bd0, bd0, ⟨none, 0, 0⟩, ⟨some ⟨g, 0, none⟩, 2, 2⟩⟩
theorem nd_two {w : World} {F : Nat → Prop} {g : Nat} {kind : Int} {x y : NV} {s t : Nd} (h : Blk w g 27 (x.cells ++ y.cells).toArray) (hF : F g) (hx : NdR w F x s) (hy : NdR w F y t) :
  NdR w F ⟨kind, [], [], 0, bd0, bd0, ⟨none, 0, 0⟩, ⟨some ⟨g, 0, none⟩, 2, 2⟩⟩ (.mk kind [] [] 0 bd0 bd0 [] [s, t]) := by
 refine .mk (RdF.nil _ _ _) (RdF.row (S := ndS) (l := [x, y]) (T := 27) (by simpa [Shape.cells, ndS] using h) hF (by simp)) rfl fun i u v hu hv => ?_
 match i, hu, hv with
 | 0, hu, hv => simp at hu hv; subst hu hv; exact hx
 | 1, hu, hv => simp at hu hv; subst hu hv; exact hy
 | i + 2, hu, hv => simp at hu
theorem NdR.alloc {w : World} {F : Nat → Prop} {x : NV} {t : Nd} (h : NdR w F x t) (o : Obj) : NdR (w.alloc o) F x t := h.belowW ((Below.refl _ _).alloc (Nat.le_refl _) o)
theorem TrE.setA {t : Nd} {w W : World} {z : Nat} {o : Obj} {x : NV} (hz : z < W.heap.size) (hb : Below w.heap.size w W) (hwz : w.heap.size ≤ z) (hx : NdR (W.alloc o) (fun b => z < b ∧ b < (W.alloc o).heap.size) x t) : TrE t w (.returned x.val) ((set12 W z x).alloc o) := by
 rw [set12_alloc hz]
 exact TrE.mk_ (set12_bel (hb.alloc hb.size _) hwz) ((hx.set12 (y := x) fun b h e => by rw [e] at h; exact Nat.lt_irrefl _ h.1).mono fun b h => ⟨Nat.le_trans hwz (Nat.le_of_lt h.1), by rw [set12_size]; exact h.2⟩)
theorem first_any (w : World) : Calls Tryd.prog 28 #[] w (TrE firstN w) := by
 have HB1 := LH ((Below.refl w.heap.size w).alloc (Nat.le_refl _) zO)
 have HZ1 := LH (Blk.new w 27 zA)
 go_enter Tryd.func28, Tryd.ntmps28
 go_wp2_with fail
 generalize w.alloc zO = w1 at *
 refine (term_any _ _).mono ?_
 rintro e w2 ⟨rfl, hb2⟩
 have HB2 := LH (HB1.out.trans (hb2.mono HB1.out.size)); have HZ2 := LH (HZ1.out.belowW hb2)
 clear hb2
 go_wp2_with fail
 refine (term_any _ _).mono ?_
 rintro e w3 ⟨rfl, hb3⟩
 have HB3 := LH (HB2.out.trans (hb3.mono HB2.out.size)); have HZ3 := LH (HZ2.out.belowW hb3)
 clear hb3
 have HK1 := LH ((Blk.new w3 27 #[.int .i64 1, .string ⟨#[]⟩, .string ⟨#[98]⟩, .int .i64 0, .bool false, .bool false, .string ⟨#[]⟩, .bool false, .bool false, .string ⟨#[]⟩, .slice none 0 0, .slice none 0 0, .int .i64 1, .string ⟨#[]⟩, .string ⟨#[99]⟩, .int .i64 0, .bool false, .bool false, .string ⟨#[]⟩, .bool false, .bool false, .string ⟨#[]⟩, .slice none 0 0, .slice none 0 0]).alloc (.cells #[.int .i64 11, .string ⟨#[]⟩, .string ⟨#[]⟩, .int .i64 0, .bool false, .bool false, .string ⟨#[]⟩, .bool false, .bool false, .string ⟨#[]⟩, .slice none 0 0, .slice (some ⟨w3.heap.size, 0, none⟩) 2 2] 27))
 have HO1 := LH (show Blk ((w3.alloc (.cells #[.int .i64 1, .string ⟨#[]⟩, .string ⟨#[98]⟩, .int .i64 0, .bool false, .bool false, .string ⟨#[]⟩, .bool false, .bool false, .string ⟨#[]⟩, .slice none 0 0, .slice none 0 0, .int .i64 1, .string ⟨#[]⟩, .string ⟨#[99]⟩, .int .i64 0, .bool false, .bool false, .string ⟨#[]⟩, .bool false, .bool false, .string ⟨#[]⟩, .slice none 0 0, .slice none 0 0] 27)).alloc (.cells #[.int .i64 11, .string ⟨#[]⟩, .string ⟨#[]⟩, .int .i64 0, .bool false, .bool false, .string ⟨#[]⟩, .bool false, .bool false, .string ⟨#[]⟩, .slice none 0 0, .slice (some ⟨w3.heap.size, 0, none⟩) 2 2] 27)) (w3.heap.size + 1) 27 #[.int .i64 11, .string ⟨#[]⟩, .string ⟨#[]⟩, .int .i64 0, .bool false, .bool false, .string ⟨#[]⟩, .bool false, .bool false, .string ⟨#[]⟩, .slice none 0 0, .slice (some ⟨w3.heap.size, 0, none⟩) 2 2] from by have h := Blk.new (w3.alloc (.cells #[.int .i64 1, .string ⟨#[]⟩, .string ⟨#[98]⟩, .int .i64 0, .bool false, .bool false, .string ⟨#[]⟩, .bool false, .bool false, .string ⟨#[]⟩, .slice none 0 0, .slice none 0 0, .int .i64 1, .string ⟨#[]⟩, .string ⟨#[99]⟩, .int .i64 0, .bool false, .bool false, .string ⟨#[]⟩, .bool false, .bool false, .string ⟨#[]⟩, .slice none 0 0, .slice none 0 0] 27)) 27 #[.int .i64 11, .string ⟨#[]⟩, .string ⟨#[]⟩, .int .i64 0, .bool false, .bool false, .string ⟨#[]⟩, .bool false, .bool false, .string ⟨#[]⟩, .slice none 0 0, .slice (some ⟨w3.heap.size, 0, none⟩) 2 2]; rw [World.size_alloc] at h; exact h)
 have HB4 := LH (show Below w.heap.size w ((w3.alloc (.cells #[.int .i64 1, .string ⟨#[]⟩, .string ⟨#[98]⟩, .int .i64 0, .bool false, .bool false, .string ⟨#[]⟩, .bool false, .bool false, .string ⟨#[]⟩, .slice none 0 0, .slice none 0 0, .int .i64 1, .string ⟨#[]⟩, .string ⟨#[99]⟩, .int .i64 0, .bool false, .bool false, .string ⟨#[]⟩, .bool false, .bool false, .string ⟨#[]⟩, .slice none 0 0, .slice none 0 0] 27)).alloc (.cells #[.int .i64 11, .string ⟨#[]⟩, .string ⟨#[]⟩, .int .i64 0, .bool false, .bool false, .string ⟨#[]⟩, .bool false, .bool false, .string ⟨#[]⟩, .slice none 0 0, .slice (some ⟨w3.heap.size, 0, none⟩) 2 2] 27)) from (HB3.out.alloc HB3.out.size _).alloc (by rw [World.size_alloc]; exact Nat.le_succ_of_le HB3.out.size) _)
 have HZ4 := LH ((HZ3.out.alloc (.cells #[.int .i64 1, .string ⟨#[]⟩, .string ⟨#[98]⟩, .int .i64 0, .bool false, .bool false, .string ⟨#[]⟩, .bool false, .bool false, .string ⟨#[]⟩, .slice none 0 0, .slice none 0 0, .int .i64 1, .string ⟨#[]⟩, .string ⟨#[99]⟩, .int .i64 0, .bool false, .bool false, .string ⟨#[]⟩, .bool false, .bool false, .string ⟨#[]⟩, .slice none 0 0, .slice none 0 0] 27)).alloc (.cells #[.int .i64 11, .string ⟨#[]⟩, .string ⟨#[]⟩, .int .i64 0, .bool false, .bool false, .string ⟨#[]⟩, .bool false, .bool false, .string ⟨#[]⟩, .slice none 0 0, .slice (some ⟨w3.heap.size, 0, none⟩) 2 2] 27))
 have HL3 := LH HZ3.out.lt
 have HNO := LH (show NdR ((w3.alloc (.cells #[.int .i64 1, .string ⟨#[]⟩, .string ⟨#[98]⟩, .int .i64 0, .bool false, .bool false, .string ⟨#[]⟩, .bool false, .bool false, .string ⟨#[]⟩, .slice none 0 0, .slice none 0 0, .int .i64 1, .string ⟨#[]⟩, .string ⟨#[99]⟩, .int .i64 0, .bool false, .bool false, .string ⟨#[]⟩, .bool false, .bool false, .string ⟨#[]⟩, .slice none 0 0, .slice none 0 0] 27)).alloc (.cells #[.int .i64 11, .string ⟨#[]⟩, .string ⟨#[]⟩, .int .i64 0, .bool false, .bool false, .string ⟨#[]⟩, .bool false, .bool false, .string ⟨#[]⟩, .slice none 0 0, .slice (some ⟨w3.heap.size, 0, none⟩) 2 2] 27)) (rng (w.heap.size + 1) (w3.heap.size + 1)) (nvOr w3.heap.size) orN from nd_two (x := nvTerm [98]) (y := nvTerm [99]) HK1.out ⟨HL3.out, Nat.lt_succ_self _⟩ (nd_term _ _ _) (nd_term _ _ _))
 have HT := LH (fun W => term_any ⟨#[97]⟩ W)
 have HS4 := LH (show w3.heap.size + 1 < ((w3.alloc (.cells #[.int .i64 1, .string ⟨#[]⟩, .string ⟨#[98]⟩, .int .i64 0, .bool false, .bool false, .string ⟨#[]⟩, .bool false, .bool false, .string ⟨#[]⟩, .slice none 0 0, .slice none 0 0, .int .i64 1, .string ⟨#[]⟩, .string ⟨#[99]⟩, .int .i64 0, .bool false, .bool false, .string ⟨#[]⟩, .bool false, .bool false, .string ⟨#[]⟩, .slice none 0 0, .slice none 0 0] 27)).alloc (.cells #[.int .i64 11, .string ⟨#[]⟩, .string ⟨#[]⟩, .int .i64 0, .bool false, .bool false, .string ⟨#[]⟩, .bool false, .bool false, .string ⟨#[]⟩, .slice none 0 0, .slice (some ⟨w3.heap.size, 0, none⟩) 2 2] 27)).heap.size from by rw [World.size_alloc, World.size_alloc]; omega)
 go_wp2_with fail
 clear HK1
 generalize ((w3.alloc (.cells #[.int .i64 1, .string ⟨#[]⟩, .string ⟨#[98]⟩, .int .i64 0, .bool false, .bool false, .string ⟨#[]⟩, .bool false, .bool false, .string ⟨#[]⟩, .slice none 0 0, .slice none 0 0, .int .i64 1, .string ⟨#[]⟩, .string ⟨#[99]⟩, .int .i64 0, .bool false, .bool false, .string ⟨#[]⟩, .bool false, .bool false, .string ⟨#[]⟩, .slice none 0 0, .slice none 0 0] 27)).alloc (.cells #[.int .i64 11, .string ⟨#[]⟩, .string ⟨#[]⟩, .int .i64 0, .bool false, .bool false, .string ⟨#[]⟩, .bool false, .bool false, .string ⟨#[]⟩, .slice none 0 0, .slice (some ⟨w3.heap.size, 0, none⟩) 2 2] 27)) = w4 at *
 generalize w3.heap.size = g3 at *
 have yzz := HO1.out
 obtain ⟨y0, y1, y2, y3, y4, y5, y6, y7, y8, y9, y10, y11, fy0, fy1, fy2, fy3, fy4, fy5, fy6, fy7, fy8, fy9, fy10, fy11, ly⟩ := blk12 yzz
 clear yzz
 have zzz := HZ4.out
 obtain ⟨z0, z1, z2, z3, z4, z5, z6, z7, z8, z9, z10, z11, fz0, fz1, fz2, fz3, fz4, fz5, fz6, fz7, fz8, fz9, fz10, fz11, lz⟩ := blk12 zzz
 clear zzz
 go_region_law (go_simp; go_at_call 47; refine (HT.out _).mono ?_; rintro e w5 ⟨rfl, hb5⟩; have hb6 : Below w4.heap.size w4 w5 := ((Below.refl w4.heap.size w4).drew).trans hb5; have HO5 := LH (HO1.out.belowW hb6); have HZ5 := LH (HZ4.out.belowW hb6); have HN5 := LH (HNO.out.belowW hb6); have HB5 := LH (HB4.out.trans (hb6.mono HB4.out.size)); have HS5 := LH (Nat.lt_of_lt_of_le HS4.out hb6.size); clear hb5 hb6 y0 y1 y2 y3 y4 y5 y6 y7 y8 y9 y10 y11 ly fy0 fy1 fy2 fy3 fy4 fy5 fy6 fy7 fy8 fy9 fy10 fy11 z0 z1 z2 z3 z4 z5 z6 z7 z8 z9 z10 z11 lz fz0 fz1 fz2 fz3 fz4 fz5 fz6 fz7 fz8 fz9 fz10 fz11; have yzz := HO5.out; have y0 := yzz.cell 0; have y1 := yzz.cell 1; have y2 := yzz.cell 2; have y3 := yzz.cell 3; have y4 := yzz.cell 4; have y5 := yzz.cell 5; have y6 := yzz.cell 6; have y7 := yzz.cell 7; have y8 := yzz.cell 8; have y9 := yzz.cell 9; have y10 := yzz.cell 10; have y11 := yzz.cell 11; have fy0 := yzz.frozen 0; have fy1 := yzz.frozen 1; have fy2 := yzz.frozen 2; have fy3 := yzz.frozen 3; have fy4 := yzz.frozen 4; have fy5 := yzz.frozen 5; have fy6 := yzz.frozen 6; have fy7 := yzz.frozen 7; have fy8 := yzz.frozen 8; have fy9 := yzz.frozen 9; have fy10 := yzz.frozen 10; have fy11 := yzz.frozen 11; have ly := yzz.lt; simp only [List.getElem?_toArray, List.getElem?_cons_zero, List.getElem?_cons_succ] at y0 y1 y2 y3 y4 y5 y6 y7 y8 y9 y10 y11; clear yzz; have zzz := HZ5.out; have z0 := zzz.cell 0; have z1 := zzz.cell 1; have z2 := zzz.cell 2; have z3 := zzz.cell 3; have z4 := zzz.cell 4; have z5 := zzz.cell 5; have z6 := zzz.cell 6; have z7 := zzz.cell 7; have z8 := zzz.cell 8; have z9 := zzz.cell 9; have z10 := zzz.cell 10; have z11 := zzz.cell 11; have fz0 := zzz.frozen 0; have fz1 := zzz.frozen 1; have fz2 := zzz.frozen 2; have fz3 := zzz.frozen 3; have fz4 := zzz.frozen 4; have fz5 := zzz.frozen 5; have fz6 := zzz.frozen 6; have fz7 := zzz.frozen 7; have fz8 := zzz.frozen 8; have fz9 := zzz.frozen 9; have fz10 := zzz.frozen 10; have fz11 := zzz.frozen 11; have lz := zzz.lt; simp only [List.getElem?_toArray, List.getElem?_cons_zero, List.getElem?_cons_succ] at z0 z1 z2 z3 z4 z5 z6 z7 z8 z9 z10 z11; clear zzz)
 all_goals
  have HNF := LH (show NdR (w5.alloc (.cells #[.int .i64 1, .string ⟨#[]⟩, .string ⟨#[97]⟩, .int .i64 0, .bool false, .bool false, .string ⟨#[]⟩, .bool false, .bool false, .string ⟨#[]⟩, .slice none 0 0, .slice none 0 0, .int .i64 11, .string ⟨#[]⟩, .string ⟨#[]⟩, .int .i64 0, .bool false, .bool false, .string ⟨#[]⟩, .bool false, .bool false, .string ⟨#[]⟩, .slice none 0 0, .slice (some ⟨g3, 0, none⟩) 2 2] 27)) (fun b => w.heap.size < b ∧ b < (w5.alloc (.cells #[.int .i64 1, .string ⟨#[]⟩, .string ⟨#[97]⟩, .int .i64 0, .bool false, .bool false, .string ⟨#[]⟩, .bool false, .bool false, .string ⟨#[]⟩, .slice none 0 0, .slice none 0 0, .int .i64 11, .string ⟨#[]⟩, .string ⟨#[]⟩, .int .i64 0, .bool false, .bool false, .string ⟨#[]⟩, .bool false, .bool false, .string ⟨#[]⟩, .slice none 0 0, .slice (some ⟨g3, 0, none⟩) 2 2] 27)).heap.size) (nvFirst w5.heap.size) firstN from nd_two (x := nvTerm [97]) (y := nvOr g3) (Blk.new w5 _ _) ⟨lz, by rw [World.size_alloc]; exact Nat.lt_succ_self _⟩ (nd_term _ _ _) ((HN5.out.alloc _).mono fun b h => ⟨h.1, by have := h.2; have := HS5.out; rw [World.size_alloc]; omega⟩))
  go_wp2
  refine bodyPost_ret (v := (nvFirst w5.heap.size).val) ?_ rfl ?_
  ·simp [results, Tryd.results28, go_sem, NV.val, nvFirst, bd0, str, lz, fz0, fz1, fz2, fz3, fz4, fz5, fz6, fz7, fz8, fz9, fz10, fz11, z0, z1, z2, z3, z4, z5, z6, z7, z8, z9, z10, z11]
  ·exact TrE.setA lz HB5.out (Nat.le_refl _) HNF.out
theorem first_good : goodN firstN = true := by simp [firstN, orN, termN, goodN, goodNs, ownN, bd0, Bd.nil]
theorem first_canon : canonN firstN = firstN := by simp [firstN, orN, termN, canonN, canonNs, canTop]
theorem first_nest : nestN firstN = 1 := by simp [firstN, orN, termN, nestN, nestNs, levN, levK, barK, deepK]
theorem first_size : sizeN firstN = 5 := by simp [firstN, orN, termN, sizeN, sizeNs]
theorem first_bk : bkN firstN ≤ 300000000000 := by simp [firstN, orN, termN, bkN, bkNs, bd0]
theorem first_form : formN firstN = [97, 32, 65, 78, 68, 32, 40, 98, 32, 79, 82, 32, 99, 41] := by
 have e1 : wordL [97] = [97] := by decide
 have e2 : wordL [98] = [98] := by decide
 have e3 : wordL [99] = [99] := by decide
 simp [firstN, orN, termN, formN, formNs, levN, levK, barK, brF, sepF, aroundF, headF, leafF, e1, e2, e3]
theorem first_print (w : World) (ea : List Addr) (hE : LawEnv w ea) (F : Nat → Prop) (y : NV) (hy : NdR w F y firstN) : Calls Tryd.prog 19 #[y.val] w fun e w' => Below w.heap.size w w' ∧ e = .returned (.tuple #[.string ⟨#[97, 32, 65, 78, 68, 32, 40, 98, 32, 79, 82, 32, 99, 41]⟩, .nilIface]) := by
 have h := pprint_yes firstN first_good w F y ea 17 hy first_bk hE.pr hE.node
 rw [first_canon, first_form] at h
 exact h
theorem first_nestc (w : World) (ea : List Addr) (hE : LawEnv w ea) (F : Nat → Prop) (y : NV) (hy : NdR w F y firstN) : Calls Tryd.prog 20 #[y.val] w fun e w' => Below w.heap.size w w' ∧ e = .returned (.tuple #[.int .i64 1, .nilIface]) := by
 have h := pnestw_yes firstN first_good w F y ea 17 hy (Nat.le_trans first_bk (by decide)) hE.pr hE.node
 rw [first_canon, first_nest] at h
 exact h
theorem first_sizec (w : World) (F : Nat → Prop) (y : NV) (hy : NdR w F y firstN) : Calls Tryd.prog 18 #[y.val] w fun e w' => e = .returned (.int .i64 5) ∧ Below w.heap.size w w' := by
 have h := psize_any firstN w F y hy (Nat.le_trans first_bk (by decide))
 unfold SzRet at h
 rw [first_size] at h
 exact h
theorem first_samec (w : World) (F G : Nat → Prop) (x y : NV) (hx : NdR w F x firstN) (hy : NdR w G y firstN) : Calls Tryd.prog 14 #[x.val, y.val] w (BoolRet true w) := by
 have h := psame_any firstN firstN w F G x y hx hy
 rw [show sameN firstN firstN = true from (same_iff _ _).2 rfl] at h
 exact h
def zeroN : Nd := .mk 0 [] [] 0 bd0 bd0 [] []
theorem zero_bad : goodN zeroN = false := by simp [zeroN, goodN, ownN]
theorem zero_check (w : World) (ea : List Addr) (hE : LawEnv w ea) : Calls Tryd.prog 17 #[.agg zA] w fun e w' => e = .returned (errI ea 17) ∧ Below w.heap.size w w' := by
 have h := pcheck_any zeroN w (fun _ => False) ⟨0, [], [], 0, bd0, bd0, ⟨none, 0, 0⟩, ⟨none, 0, 0⟩⟩ ea 17 (.mk (RdF.nil _ _ _) (RdF.nil _ _ _) rfl fun i x t hx _ => by simp at hx) (by simp [zeroN, bkN, bkNs, bd0]) hE.pr.asks hE.node
 refine h.mono fun e w' h2 => ?_
 obtain ⟨h3, h4⟩ := h2.ino zero_bad
 exact ⟨h4, h3⟩
theorem fixed_any (w : World) (ea : List Addr) (hE : LawEnv w ea) : Calls Tryd.prog 9 #[] w (BoolRet true w) := by
 have HE := LH hE
 have HF := LH (fun W => first_any W)
 have HB0 := LH (Below.refl w.heap.size w)
 clear hE
 go_enter Tryd.func9, Tryd.ntmps9
 go_wp2_with fail
 refine (HF.out _).mono ?_
 rintro e w1 ⟨hb1, kdA, xnA, flA, txA, laA, lbA, lcA, raA, rbA, rcA, oaA, onA, ocA, kaA, knA, kcA, rfl, hx⟩
 have HXA := LH hx
 have HB1 := LH (HB0.out.trans (hb1.mono HB0.out.size))
 have HE1 := LH (HE.out.below HB1.out)
 clear hb1 hx
 have HC := LH (first_print w1 ea HE1.out _ _ HXA.out)
 unfold NV.val at HC
 simp only [] at HC
 go_wp2_with fail
 refine HC.out.mono ?_
 rintro e w2 ⟨hb2, rfl⟩
 have HB2 := LH (HB1.out.trans (hb2.mono HB1.out.size))
 have HE2 := LH (HE.out.below HB2.out)
 clear HC
 go_wp2_with fail
 refine (HF.out _).mono ?_
 rintro e w3 ⟨hb3, kdB, xnB, flB, txB, laB, lbB, lcB, raB, rbB, rcB, oaB, onB, ocB, kaB, knB, kcB, rfl, hx⟩
 have HXB := LH hx
 have HB3 := LH (HB2.out.trans (hb3.mono HB2.out.size))
 have HE3 := LH (HE.out.below HB3.out)
 clear hb3 hx
 have HC := LH (first_nestc w3 ea HE3.out _ _ HXB.out)
 unfold NV.val at HC
 simp only [] at HC
 go_wp2_with fail
 refine HC.out.mono ?_
 rintro e w4 ⟨hb4, rfl⟩
 have HB4 := LH (HB3.out.trans (hb4.mono HB3.out.size))
 have HE4 := LH (HE.out.below HB4.out)
 clear HC
 go_wp2_with fail
 refine (HF.out _).mono ?_
 rintro e w5 ⟨hb5, kdC, xnC, flC, txC, laC, lbC, lcC, raC, rbC, rcC, oaC, onC, ocC, kaC, knC, kcC, rfl, hx⟩
 have HXC := LH hx
 have HB5 := LH (HB4.out.trans (hb5.mono HB4.out.size))
 have HE5 := LH (HE.out.below HB5.out)
 clear hb5 hx
 have HC := LH (first_sizec w5 _ _ HXC.out)
 unfold NV.val at HC
 simp only [] at HC
 go_wp2_with fail
 refine HC.out.mono ?_
 rintro e w6 ⟨rfl, hb6⟩
 have HB6 := LH (HB5.out.trans (hb6.mono HB5.out.size))
 have HE6 := LH (HE.out.below HB6.out)
 clear HC
 have HC := LH (zero_check w6 ea HE6.out)
 go_wp2_with fail
 refine HC.out.mono ?_
 rintro e w7 ⟨rfl, hb7⟩
 have HB7 := LH (HB6.out.trans (hb7.mono HB6.out.size))
 have HE7 := LH (HE.out.below HB7.out)
 clear HC
 have HNM := LH (Num_17 ea w7 HE7.out.er)
 go_wp2_with fail
 refine HNM.out.mono ?_
 rintro e w8 ⟨rfl, rfl⟩
 go_wp2_with fail
 refine (HF.out _).mono ?_
 rintro e w9 ⟨hb9, kdD, xnD, flD, txD, laD, lbD, lcD, raD, rbD, rcD, oaD, onD, ocD, kaD, knD, kcD, rfl, hx⟩
 have HXD := LH hx
 have HB9 := LH (HB7.out.trans (hb9.mono HB7.out.size))
 have HE9 := LH (HE.out.below HB9.out)
 have HLT := LH hb9
 clear hb9 hx
 go_wp2_with fail
 refine (HF.out _).mono ?_
 rintro e w10 ⟨hb10, kdE, xnE, flE, txE, laE, lbE, lcE, raE, rbE, rcE, oaE, onE, ocE, kaE, knE, kcE, rfl, hx⟩
 have HXE := LH hx
 have HB10 := LH (HB9.out.trans (hb10.mono HB9.out.size))
 have HE10 := LH (HE.out.below HB10.out)
 have HXD2 := LH (HXD.out.belowW hb10)
 clear hb10 hx
 have HC := LH (first_samec w10 _ _ _ _ HXD2.out HXE.out)
 unfold NV.val at HC
 simp only [] at HC
 go_wp2_with fail
 refine HC.out.mono ?_
 rintro e w11 ⟨rfl, hb11⟩
 have HB11 := LH (HB10.out.trans (hb11.mono HB10.out.size))
 have HE11 := LH (HE.out.below HB11.out)
 clear HC
 go_wp2
 go_ret
 exact ⟨rfl, HB11.out⟩
theorem pprint_as {ar c : Nd} {fs : ByteArray} (hg : goodN ar = true) (hc : canonN ar = c) (hf : str (formN c) = fs) {w : World} {F : Nat → Prop} {x : NV} {ea : List Addr} (hx : NdR w F x ar) (hbk : bkN ar ≤ 300000000000) (hE : LawEnv w ea) :
  Calls Tryd.prog 19 #[x.val] w fun e w' => Below w.heap.size w w' ∧ e = .returned (.tuple #[.string fs, .nilIface]) := by
 have h := pprint_yes ar hg w F x ea 17 hx hbk hE.pr hE.node
 rw [hc, hf] at h
 exact h
theorem pcanon_as {ar c : Nd} (hg : goodN ar = true) (hc : canonN ar = c) {w : World} {F : Nat → Prop} {x : NV} {ea : List Addr} (hx : NdR w F x ar) (hbk : bkN ar ≤ 300000000000) (hE : LawEnv w ea) :
  Calls Tryd.prog 16 #[x.val] w (TrE2 c .nilIface w) := by
 have h := pcanonw_yes ar hg w F x ea 17 hx (Nat.le_trans hbk (by decide)) hE.pr.asks hE.node
 rw [hc] at h
 exact h
theorem pnest_as {ar c : Nd} {d : Nat} (hg : goodN ar = true) (hc : canonN ar = c) (hd : nestN c = d) {w : World} {F : Nat → Prop} {x : NV} {ea : List Addr} (hx : NdR w F x ar) (hbk : bkN ar ≤ 300000000000) (hE : LawEnv w ea) :
  Calls Tryd.prog 20 #[x.val] w fun e w' => Below w.heap.size w w' ∧ e = .returned (.tuple #[.int .i64 (d : Int), .nilIface]) := by
 have h := pnestw_yes ar hg w F x ea 17 hx (Nat.le_trans hbk (by decide)) hE.pr hE.node
 rw [hc, hd] at h
 exact h
theorem rsame_as {t u : Nd} {b : Bool} (h : sameN t u = b) {w : World} {F G : Nat → Prop} {x y : NV} (hx : NdR w F x t) (hy : NdR w G y u) :
  Calls Tryd.prog 13 #[x.val, y.val] w fun e w' => e = .returned (.bool b) ∧ Below w.heap.size w w' := by
 have h2 := rsame_any t u w F G x y hx hy
 rw [h] at h2
 exact h2
theorem same_self (t : Nd) : sameN t t = true := (same_iff _ _).2 rfl
def TrE3 (t : Nd) (v1 v2 : Value) (w : World) (e : Ending) (w' : World) : Prop := Below w.heap.size w w' ∧ ∃ (kd xn : Int) (fl tx : List UInt8) (la lb : Bool) (lc : List UInt8) (ra rb : Bool) (rc : List UInt8) (oa : Option Addr) (on oc : Nat) (ka : Option Addr) (kn kc : Nat),
 e = .returned (.tuple #[.agg #[.int .i64 kd, .string (str fl), .string (str tx), .int .i64 xn, .bool la, .bool lb, .string (str lc), .bool ra, .bool rb, .string (str rc), .slice oa on oc, .slice ka kn kc], v1, v2]) ∧ NdR w' (rng w.heap.size w'.heap.size) ⟨kd, fl, tx, xn, ⟨la, lb, lc⟩, ⟨ra, rb, rc⟩, ⟨oa, on, oc⟩, ⟨ka, kn, kc⟩⟩ t
theorem parse_as {c : Nd} {fs : ByteArray} (hg : goodN c = true) (hc : CanN c) (hf : str (formN c) = fs) (hd : nestN c ≤ 64) (hl : (formN c).length ≤ 900000000000) {w : World} {ea : List Addr} (hE : LawEnv w ea) :
  Calls Tryd.prog 26 #[.string fs] w (TrE3 c (.int .i64 0) .nilIface w) := by
 have h := parse_der (s := str (formN c)) (n := nestN c) (t := c) (by rw [str_data]; exact form_der hg hc) hd w ea 15 (by rw [str_size]; exact hl) hE.pr.cls hE.syn
 rw [hf] at h
 refine h.mono fun e w' h2 => ?_
 obtain ⟨hb, ⟨kd, fl, tx, xn, ⟨la, lb, lc⟩, ⟨ra, rb, rc⟩, ⟨oa, on, oc⟩, ⟨ka, kn, kc⟩⟩, rfl, hx⟩ := h2
 exact ⟨hb, kd, xn, fl, tx, la, lb, lc, ra, rb, rc, oa, on, oc, ka, kn, kc, rfl, hx⟩
theorem pcheck_yes {t : Nd} (hg : goodN t = true) {w : World} {F : Nat → Prop} {x : NV} {ea : List Addr} (hx : NdR w F x t) (hbk : bkN t ≤ 300000000000) (hE : LawEnv w ea) : Calls Tryd.prog 17 #[x.val] w fun e w' => e = .returned .nilIface ∧ Below w.heap.size w w' := by
 refine (pcheck_any t w F x ea 17 hx (Nat.le_trans hbk (by decide)) hE.pr.asks hE.node).mono fun e w' h => ?_
 obtain ⟨h1, h2⟩ := h.iyes hg
 exact ⟨h2, h1⟩
end Go.Proofs.YthcldpminmhgkaaDoor
end
section
namespace Go.Proofs.YthcldpminmhgkaaDoor
mutual
def fsN : Nd → Nat
 | .mk _ field _ _ _ _ _ ks => field.length + fsNs ks
def fsNs : List Nd → Nat
 | [] => 0
 | k :: ks => fsN k + fsNs ks
end
mutual
def b0N : Nd → Nat
 | .mk _ _ text _ lo hi occ ks => 1 + text.length + lo.text.length + hi.text.length + occ.length + b0Ns ks
def b0Ns : List Nd → Nat
 | [] => 0
 | k :: ks => b0N k + b0Ns ks
end
mutual
theorem bk_split : ∀ t : Nd, bkN t = b0N t + fsN t
 | .mk kind field text n lo hi occ ks => by
  have h := bks_split ks
  rw [bkN, b0N, fsN]; omega
theorem bks_split : ∀ l : List Nd, bkNs l = b0Ns l + fsNs l
 | [] => rfl
 | k :: ks => by
  have h := bk_split k
  have h2 := bks_split ks
  rw [bkNs, b0Ns, fsNs]; omega
end
mutual
theorem size_b0 : ∀ t : Nd, sizeN t ≤ b0N t
 | .mk kind field text n lo hi occ ks => by
  have h := sizes_b0 ks
  rw [sizeN, b0N]; omega
theorem sizes_b0 : ∀ l : List Nd, sizeNs l ≤ b0Ns l
 | [] => Nat.le_refl _
 | k :: ks => by
  have h := size_b0 k
  have h2 := sizes_b0 ks
  rw [sizeNs, b0Ns]; omega
end
mutual
theorem form_len2 : ∀ t : Nd, goodN t = true → (formN t).length + 8 ≤ 2 * fsN t + 4 * b0N t + 40 * sizeN t
 | .mk kind field text n lo hi occ ks, h => by
  have hn := good_num h
  rw [goodN, Bool.and_eq_true] at h
  have hs := forms_len2 ks kind true occ h.2
  have ha := aroundF_len kind n (formNs kind true occ ks) hn.2.2.2
  have hl := leafF_len kind text n lo hi hn.2.2.2
  have hh := headF_len field
  rw [formN, b0N, fsN, sizeN]
  split
  ·split
   ·simp only [List.length_cons, List.length_nil]; omega
   ·rw [List.length_append]; omega
  ·omega
theorem forms_len2 : ∀ (l : List Nd) (kind : Int) (b : Bool) (occ : List Int), goodNs l = true → (formNs kind b occ l).length ≤ 2 * fsNs l + 4 * b0Ns l + 40 * sizeNs l
 | [], kind, b, occ, _ => by rw [formNs]; simp
 | k :: ks, kind, b, occ, h => by
  rw [goodNs, Bool.and_eq_true] at h
  have h1 := form_len2 k h.1
  have h2 := forms_len2 ks kind false occ.tail h.2
  have h3 := brF_len (decide (levN k < barK kind (occ.headD 0))) (formN k)
  have h4 := signF_len (occ.headD 0)
  have h5 := sepF_len kind
  rw [formNs, fsNs, b0Ns, sizeNs, List.length_append, List.length_append, List.length_append]
  have e1 : (if b = true then [] else sepF kind).length ≤ 5 := by
   cases b
   ·exact h5
   ·exact Nat.zero_le _
  have e2 : (if kind = 9 then signF (occ.headD 0) else []).length ≤ 1 := by
   by_cases h9 : kind = 9
   ·rw [if_pos h9]; exact h4
   ·rw [if_neg h9]; exact Nat.zero_le _
  omega
end
def wgt (s : List UInt8) : Nat := max 1 s.length
def wgts : List Lt → Nat
 | [] => 0
 | t :: r => wgt t.text + wgts r
theorem wgts_append (a b : List Lt) : wgts (a ++ b) = wgts a + wgts b := by
 induction a with
 | nil => simp [wgts]
 | cons t a ih => simp only [List.cons_append, wgts, ih]; omega
theorem wgt_pos (s : List UInt8) : 1 ≤ wgt s ∧ s.length ≤ wgt s := by unfold wgt; omega
def fsV (l : List (Int × Nd)) : Nat := fsNs (l.map (·.2))
def b0V (l : List (Int × Nd)) : Nat := b0Ns (l.map (·.2))
theorem fsNs_append (a b : List Nd) : fsNs (a ++ b) = fsNs a + fsNs b := by
 induction a with
 | nil => simp [fsNs]
 | cons t a ih => simp only [List.cons_append, fsNs, ih]; omega
theorem b0Ns_append (a b : List Nd) : b0Ns (a ++ b) = b0Ns a + b0Ns b := by
 induction a with
 | nil => simp [b0Ns]
 | cons t a ih => simp only [List.cons_append, b0Ns, ih]; omega
def Few15 (W f : Nat) (l : List (Int × Nd)) : Prop := b0V l + l.length ≤ 3 * W ∧ ∃ M N, N ≤ W ∧ fsV l ≤ M * N ∧ (M ≤ f ∨ M + N ≤ W)
theorem Few15.app {W1 W2 f : Nat} {l m : List (Int × Nd)} (h1 : Few15 W1 f l) (h2 : Few15 W2 f m) : Few15 (W1 + W2) f (l ++ m) := by
 obtain ⟨a1, M1, N1, c1, d1, e1⟩ := h1
 obtain ⟨a2, M2, N2, c2, d2, e2⟩ := h2
 refine ⟨?_, max M1 M2, N1 + N2, by omega, ?_, ?_⟩
 ·unfold b0V at *
  rw [List.map_append, b0Ns_append, List.length_append]; omega
 ·unfold fsV at *
  rw [List.map_append, fsNs_append, Nat.mul_add]
  exact Nat.add_le_add (Nat.le_trans d1 (Nat.mul_le_mul_right _ (Nat.le_max_left _ _))) (Nat.le_trans d2 (Nat.mul_le_mul_right _ (Nat.le_max_right _ _)))
 ·omega
theorem Few15.more {W V f : Nat} {l : List (Int × Nd)} (h : Few15 W f l) (hw : W ≤ V) : Few15 V f l := by
 obtain ⟨a1, M1, N1, c1, d1, e1⟩ := h
 exact ⟨by omega, M1, N1, by omega, d1, by omega⟩
theorem fsV_kids (kind n : Int) (l : List (Int × Nd)) (o : Int) : fsV [(o, ndKids kind n (l.map (·.2)))] = fsV l := by
 simp [fsV, fsNs, ndKids, fsN]
theorem b0V_kids (kind n : Int) (l : List (Int × Nd)) (o : Int) : b0V [(o, ndKids kind n (l.map (·.2)))] = b0V l + 1 := by
 simp [b0V, b0Ns, ndKids, b0N, bd0]; omega
theorem fsV_list (n : Int) (l : List (Int × Nd)) (o : Int) : fsV [(o, ndList n l)] = fsV l := by
 simp [fsV, fsNs, ndList, fsN]
theorem b0V_list (n : Int) (l : List (Int × Nd)) (o : Int) : b0V [(o, ndList n l)] = b0V l + l.length + 1 := by
 simp [b0V, b0Ns, ndList, b0N, bd0]; omega
theorem wrap_ne15 (kind : Int) (l : List (Int × Nd)) : wrapN kind l ≠ [] := by
 unfold wrapN
 split <;> simp
theorem Few15.wrap {W f : Nat} {kind : Int} {l : List (Int × Nd)} (h : Few15 W f l) (h0 : l ≠ []) : Few15 W f (wrapN kind l) := by
 obtain ⟨a1, M1, N1, c1, d1, e1⟩ := h
 unfold wrapN
 split
 ·rename_i x
  refine ⟨?_, M1, N1, c1, ?_, e1⟩
  ·exact a1
  ·exact d1
 ·rename_i hne
  refine ⟨?_, M1, N1, c1, ?_, e1⟩
  ·rw [b0V_kids]
   rcases l with _ | ⟨x, _ | ⟨y, l⟩⟩
   ·exact absurd rfl h0
   ·exact absurd rfl (hne x)
   ·simp only [List.length_cons, List.length_nil] at *; omega
  ·rw [fsV_kids]; exact d1
theorem Few15.tree {W f : Nat} {l : List (Int × Nd)} (h : Few15 W f l) (o : Int) : Few15 (W + 1) f [(o, treeN l)] := by
 obtain ⟨a1, M1, N1, c1, d1, e1⟩ := h
 unfold treeN
 split
 ·rename_i x
  have hb0 : b0V [(o, x)] = b0V [((0 : Int), x)] := rfl
  refine ⟨?_, M1, N1, by omega, d1, by omega⟩
  rw [hb0]; simp only [List.length_cons, List.length_nil] at *; omega
 ·refine ⟨?_, M1, N1, by omega, by rw [fsV_list]; exact d1, by omega⟩
  rw [b0V_list]; simp only [List.length_cons, List.length_nil]; omega
theorem Few15.list {W f : Nat} {l : List (Int × Nd)} (h : Few15 W f l) (o n : Int) : Few15 (W + 1) f [(o, ndList n l)] := by
 obtain ⟨a1, M1, N1, c1, d1, e1⟩ := h
 refine ⟨?_, M1, N1, by omega, by rw [fsV_list]; exact d1, by omega⟩
 rw [b0V_list]; simp only [List.length_cons, List.length_nil]; omega
theorem Few15.kids {W f : Nat} {l : List (Int × Nd)} (h : Few15 W f l) (o n kind : Int) : Few15 (W + 1) f [(o, ndKids kind n (l.map (·.2)))] := by
 obtain ⟨a1, M1, N1, c1, d1, e1⟩ := h
 refine ⟨?_, M1, N1, by omega, by rw [fsV_kids]; exact d1, by omega⟩
 rw [b0V_kids]; simp only [List.length_cons, List.length_nil]; omega
theorem Few15.leaf {W f : Nat} {t : Nd} {fl : List UInt8} (hf : fsN t ≤ fl.length) (hb : b0N t ≤ 1 + W) (hW : 1 ≤ W) (e : fl.length = f) : Few15 W f [((0 : Int), t)] := by
 refine ⟨?_, f, 1, hW, ?_, Or.inl (Nat.le_refl _)⟩
 ·simp only [b0V, b0Ns, List.map_cons, List.map_nil, List.length_cons, List.length_nil]; omega
 ·simp only [fsV, fsNs, List.map_cons, List.map_nil]; omega
theorem patF_few (fl all : List UInt8) : ∀ (text letters : List UInt8), letters.length + text.length ≤ all.length → fsN (patF fl all letters text) = fl.length ∧ b0N (patF fl all letters text) ≤ 1 + all.length
 | [], letters, h => by
  rw [patF]
  exact ⟨by simp [ndLeaf, fsN, fsNs], by simp [ndLeaf, b0N, b0Ns, bd0]⟩
 | [c], letters, h => by
  rw [patF]
  split
  ·exact ⟨by simp [ndLeaf, fsN, fsNs], by simp [ndLeaf, b0N, b0Ns, bd0] at h ⊢; omega⟩
  ·exact ⟨by simp [ndLeaf, fsN, fsNs], by simp [ndLeaf, b0N, b0Ns, bd0]⟩
 | c :: d :: r, letters, h => by
  rw [patF]
  split
  ·exact ⟨by simp [ndLeaf, fsN, fsNs], by simp [ndLeaf, b0N, b0Ns, bd0]⟩
  ·split
   ·exact patF_few fl all r _ (by simp at h ⊢; omega)
   ·exact patF_few fl all (d :: r) _ (by simp at h ⊢; omega)
theorem d_few {p : Pt} {A : List Lt} {n : Nat} {v : Vl} (h : D p A n v) : ∀ f : List UInt8, Few15 (wgts A) f.length (v f) ∧ v f ≠ [] := by
 induction h with
 | @word t h1 =>
  intro f
  have hw := wgt_pos t.text
  refine ⟨Few15.leaf (fl := f) ?_ ?_ ?_ rfl, by simp⟩
  ·simp [ndLeaf, fsN, fsNs]
  ·simp [ndLeaf, b0N, b0Ns, bd0, wgts]; omega
  ·simp [wgts]; omega
 | @edits t u h1 h2 h3 =>
  intro f
  have hw := wgt_pos t.text
  have hu := wgt_pos u.text
  refine ⟨Few15.leaf (fl := f) ?_ ?_ ?_ rfl, by simp⟩
  ·simp [ndLeaf, fsN, fsNs]
  ·simp [ndLeaf, b0N, b0Ns, bd0, wgts]; omega
  ·simp [wgts]; omega
 | @pat t h1 =>
  intro f
  have hw := wgt_pos t.text
  refine ⟨?_, by simp⟩
  unfold patN
  split
  ·refine Few15.leaf (fl := f) ?_ ?_ ?_ rfl
   ·simp [ndLeaf, fsN, fsNs]
   ·simp [ndLeaf, b0N, b0Ns, bd0, wgts]
   ·simp [wgts]; omega
  ·have hp := patF_few f t.text t.text [] (by simp)
   refine Few15.leaf (fl := f) (Nat.le_of_eq hp.1) ?_ ?_ rfl
   ·simp only [wgts]; omega
   ·simp only [wgts]; omega
 | @quo t h1 =>
  intro f
  have hw := wgt_pos t.text
  refine ⟨Few15.leaf (fl := f) ?_ ?_ ?_ rfl, by simp⟩
  ·simp [ndLeaf, fsN, fsNs]
  ·simp [ndLeaf, b0N, b0Ns, bd0, wgts]; omega
  ·simp [wgts]; omega
 | @slop t u h1 h2 h3 =>
  intro f
  have hw := wgt_pos t.text
  have hu := wgt_pos u.text
  refine ⟨Few15.leaf (fl := f) ?_ ?_ ?_ rfl, by simp⟩
  ·simp [ndLeaf, fsN, fsNs]
  ·simp [ndLeaf, b0N, b0Ns, bd0, wgts]; omega
  ·simp [wgts]; omega
 | @span a b c d e h1 h2 h3 h4 h5 =>
  intro f
  have hw := wgt_pos a.text
  have hb := wgt_pos b.text
  have hc := wgt_pos c.text
  have hd := wgt_pos d.text
  have he := wgt_pos e.text
  have hs : ∀ (t : Lt) (i : Bool), (sideN t i).text.length ≤ t.text.length := by
   intro t i
   unfold sideN
   split <;> simp
  have s1 := hs b (decide (a.kind = 10))
  have s2 := hs d (decide (e.kind = 11))
  refine ⟨Few15.leaf (fl := f) ?_ ?_ ?_ rfl, by simp⟩
  ·simp [fsN, fsNs]
  ·simp only [b0N, b0Ns, wgts, List.length_nil]; omega
  ·simp only [wgts]; omega
 | @group o c A n v h1 h2 h3 ih =>
  intro f
  have hw := wgt_pos o.text
  refine ⟨((ih f).1.tree 0).more ?_, by simp⟩
  simp only [wgts, wgts_append]; omega
 | @least o c l A n v h1 h2 h3 h4 ih =>
  intro f
  have hw := wgt_pos o.text
  refine ⟨?_, by simp⟩
  have hle : wgts A + 1 ≤ wgts (o :: (A ++ [c, l])) := by simp only [wgts, wgts_append]; omega
  show Few15 _ _ [((0 : Int), if 0 < l.n then ndList l.n (v f) else treeN (v f))]
  split
  ·exact ((ih f).1.list 0 _).more hle
  ·exact ((ih f).1.tree 0).more hle
 | leafB _ ih => exact ih
 | groupB _ ih => exact ih
 | bodyA _ ih => exact ih
 | @field w c A n v h1 h2 h3 ih =>
  intro f
  have hw := wgt_pos w.text
  have hc := wgt_pos c.text
  obtain ⟨⟨a1, M1, N1, c1, d1, e1⟩, hne⟩ := ih w.text
  refine ⟨⟨?_, M1, N1, ?_, d1, Or.inr ?_⟩, hne⟩
  all_goals
   simp only [wgts]
   omega
 | @all s c t h1 h2 h3 =>
  intro f
  have hw := wgt_pos s.text
  refine ⟨⟨?_, 0, 0, Nat.zero_le _, ?_, Or.inl (Nat.zero_le _)⟩, by simp⟩
  ·simp [b0V, b0Ns, ndLeaf, b0N, bd0, wgts]; omega
  ·simp [fsV, fsNs, ndLeaf, fsN]
 | atomP _ ih => exact ih
 | @sfx b A n v h1 h2 ih =>
  intro f
  have hw := wgt_pos b.text
  refine ⟨((ih f).1.kids 0 _ _).more ?_, by simp⟩
  simp only [wgts, wgts_append]; omega
 | pieceU _ ih => exact ih
 | @not t A n v h1 h2 ih =>
  intro f
  have hw := wgt_pos t.text
  refine ⟨((ih f).1.kids 0 _ _).more ?_, by simp⟩
  simp only [wgts]; omega
 | maxU _ ih => exact ih
 | @bar b A B n m v u h1 h2 h3 ih1 ih2 =>
  intro f
  refine ⟨((ih1 f).1.app (ih2 f).1).more ?_, by simp [(ih1 f).2]⟩
  simp only [wgts, wgts_append]; omega
 | andM _ ih => exact fun f => ⟨(ih f).1.wrap (ih f).2, wrap_ne15 _ _⟩
 | @and b A B n m v u h1 h2 h3 ih1 ih2 =>
  intro f
  refine ⟨((ih1 f).1.app ((ih2 f).1.wrap (ih2 f).2)).more ?_, by simp [(ih1 f).2]⟩
  simp only [wgts, wgts_append]; omega
 | orA _ ih => exact fun f => ⟨(ih f).1.wrap (ih f).2, wrap_ne15 _ _⟩
 | @or b A B n m v u h1 h2 h3 ih1 ih2 =>
  intro f
  refine ⟨((ih1 f).1.app ((ih2 f).1.wrap (ih2 f).2)).more ?_, by simp [(ih1 f).2]⟩
  simp only [wgts, wgts_append]; omega
 | clauseO _ ih => exact fun f => ⟨(ih f).1.wrap (ih f).2, wrap_ne15 _ _⟩
 | @sign s A n v h1 h2 ih =>
  intro f
  obtain ⟨⟨a1, M1, N1, c1, d1, e1⟩, hne⟩ := ih f
  have e : ((v f).map fun x => ((if s.kind = 15 then 1 else 2 : Int), x.2)).map (·.2) = (v f).map (·.2) := by rw [List.map_map]; rfl
  refine ⟨⟨?_, M1, N1, ?_, ?_, ?_⟩, by simpa using hne⟩
  ·unfold b0V at *; rw [e, List.length_map]; simp only [wgts]; omega
  ·simp only [wgts]; omega
  ·unfold fsV at *; rw [e]; exact d1
  ·simp only [wgts]; omega
 | one _ ih => exact ih
 | @more A B n m v u h1 h2 ih1 ih2 =>
  intro f
  refine ⟨((ih1 f).1.app (ih2 f).1).more ?_, by simp [(ih1 f).2]⟩
  rw [wgts_append]; omega
theorem scanF_wgt {f : Nat} : ∀ {l : List UInt8} {i : Nat} {la : List Lx}, scanF f l i = (la, none) → (la.map fun x => wgt x.text).sum ≤ l.length + 1 := by
 induction f with
 | zero => intro l i la h; simp [scanF] at h
 | succ f ih =>
  intro l i la h
  cases l with
  | nil =>
   rw [scanF] at h
   simp only [Prod.mk.injEq, and_true] at h
   rw [← h]
   simp [wgt]
  | cons c t =>
   rw [scanF] at h
   split at h
   ·have := ih h
    rw [List.length_cons]; omega
   ·rename_i hc
    split at h
    ·cases h
    ·rename_i k ht
     rcases hr : scanF f ((c :: t).drop k.len) (i + k.len) with ⟨u, _ | z⟩
     ·rw [hr] at h
      simp only [ahead, List.singleton_append, Prod.mk.injEq, and_true] at h
      rw [← h]
      have h1 := (tok_ok ht).2
      have h2 := tok_len ht (fun d hd => by simp at hd; rw [← hd]; exact hc)
      have h3 := ih hr
      rw [List.length_drop] at h3
      rw [List.map_cons, List.sum_cons]
      have h4 : wgt (k.lx i).text ≤ k.len := by
       show max 1 k.text.length ≤ k.len
       omega
      omega
     ·rw [hr] at h
      simp [ahead] at h
theorem toks_wgt {l : List UInt8} {A : List Lt} (h : Toks l A) : wgts A ≤ l.length := by
 obtain ⟨la, e, hs, he, hl⟩ := h
 have h1 := scanF_wgt hs
 rw [List.map_append, List.sum_append] at h1
 have h2 : (la.map fun x => wgt x.text).sum = wgts A := by
  clear hs h1
  induction la generalizing A with
  | nil => cases A with
   | nil => rfl
   | cons t A => simp at hl
  | cons x la ih => cases A with
   | nil => simp at hl
   | cons t A =>
    simp only [List.map_cons, List.cons.injEq] at hl
    have h3 := ih hl.2
    have h4 : x.text = t.text := by
     have := hl.1
     unfold lk lkX at this
     simp only [Prod.mk.injEq] at this
     exact this.2.1
    rw [List.map_cons, List.sum_cons, wgts, h3, h4]
 have h5 := (wgt_pos e.text).1
 simp only [List.map_cons, List.map_nil, List.sum_cons, List.sum_nil] at h1
 omega
theorem mul_sq {M N W : Nat} (h : M + N ≤ W) : 4 * (M * N) ≤ W * W := by
 have h1 : (M + N) * (M + N) ≤ W * W := Nat.mul_le_mul h h
 have h2 : 4 * (M * N) ≤ (M + N) * (M + N) := by
  rcases Nat.le_total M N with g | g
  ·obtain ⟨d, rfl⟩ := Nat.exists_eq_add_of_le g
   have : (M + (M + d)) * (M + (M + d)) = 4 * (M * (M + d)) + d * d := by
    simp only [Nat.mul_add, Nat.add_mul]
    have := Nat.mul_comm M d
    omega
   omega
  ·obtain ⟨d, rfl⟩ := Nat.exists_eq_add_of_le g
   have : (N + d + N) * (N + d + N) = 4 * ((N + d) * N) + d * d := by
    simp only [Nat.mul_add, Nat.add_mul]
    have := Nat.mul_comm N d
    omega
   omega
 omega
theorem der_few {l : List UInt8} {n : Nat} {t : Nd} (h : Der l n t) (hl : l.length ≤ 1048576) : b0N t ≤ 3145732 ∧ fsN t ≤ 274877906944 := by
 obtain ⟨A, v, hT, hD, rfl⟩ := h
 have hw := toks_wgt hT
 obtain ⟨a1, M, N, c1, d1, e1⟩ := ((d_few hD []).1.tree 0)
 have hb : b0V [((0 : Int), treeN (v []))] = b0N (treeN (v [])) := by simp [b0V, b0Ns]
 have hf : fsV [((0 : Int), treeN (v []))] = fsN (treeN (v [])) := by simp [fsV, fsNs]
 rw [hb] at a1
 rw [hf] at d1
 have hd : (d_few hD []).1 = (d_few hD []).1 := rfl
 obtain ⟨a2, M2, N2, c2, d2, e2⟩ := (d_few hD []).1
 have hf2 : fsN (treeN (v [])) ≤ M2 * N2 := by
  refine Nat.le_trans (Nat.le_of_eq ?_) d2
  unfold treeN
  split
  ·rename_i x he
   simp [fsV, fsNs, he]
  ·simp [fsV, ndList, fsN]
 refine ⟨by simp only [List.length_cons, List.length_nil] at a1; omega, ?_⟩
 rcases e2 with e2 | e2
 ·have : M2 = 0 := Nat.le_zero.1 e2
  rw [this, Nat.zero_mul] at hf2; omega
 ·have h1 := mul_sq e2
  have h2 : wgts A * wgts A ≤ 1048576 * 1048576 := Nat.mul_le_mul (Nat.le_trans hw hl) (Nat.le_trans hw hl)
  omega
theorem der_bk {l : List UInt8} {n : Nat} {t : Nd} (h : Der l n t) (hl : l.length ≤ 1048576) : bkN t ≤ 300000000000 := by
 have h1 := der_few h hl
 rw [bk_split]; omega
theorem der_form {l : List UInt8} {n : Nat} {t : Nd} (h : Der l n t) (hl : l.length ≤ 1048576) (hg : goodN t = true) : (formN t).length ≤ 900000000000 := by
 have h1 := der_few h hl
 have h2 := form_len2 t hg
 have h3 := size_b0 t
 omega
end Go.Proofs.YthcldpminmhgkaaDoor
end
