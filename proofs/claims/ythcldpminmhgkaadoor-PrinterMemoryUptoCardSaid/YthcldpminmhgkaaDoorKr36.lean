/- Merged for a claim by shake.py: Jbb Jbc Jao Jbe Jbg -/
import Derived.Test.YthcldpminmhgkaaDoorKrA
import Derived.Test.YthcldpminmhgkaaDoorKr35
set_option maxRecDepth 100000
set_option maxHeartbeats 4000000
set_option linter.unusedSimpArgs false
set_option linter.unusedVariables false
section
namespace Go.Proofs.YthcldpminmhgkaaDoor
open Go.RowKit
def orN : Nd := .mk 11 [] [] 0 bd0 bd0 [] [termN [98], termN [99]]
def firstN : Nd := .mk 10 [] [] 0 bd0 bd0 [] [termN [97], orN]
def nvOr (g : Nat) : NV := ⟨11, [], [], 0, bd0, bd0, ⟨none, 0, 0⟩, ⟨some ⟨g, 0, none⟩, 2, 2⟩⟩
def nvFirst (g : Nat) : NV := ⟨10, [], [], 0, bd0, bd0, ⟨none, 0, 0⟩, ⟨some ⟨g, 0, none⟩, 2, 2⟩⟩
theorem nd_two {w : World} {F : Nat → Prop} {g : Nat} {kind : Int} {x y : NV} {s t : Nd} (h : Blk w g 27 (x.cells ++ y.cells).toArray) (hF : F g) (hx : NdR w F x s) (hy : NdR w F y t) :
  NdR w F ⟨kind, [], [], 0, bd0, bd0, ⟨none, 0, 0⟩, ⟨some ⟨g, 0, none⟩, 2, 2⟩⟩ (.mk kind [] [] 0 bd0 bd0 [] [s, t]) := by
 refine .mk (RdF.nil _ _ _) (RdF.row (S := ndS) (l := [x, y]) (T := 27) (by simpa [Shape.cells, ndS] using h) hF (by simp)) rfl fun i u v hu hv => ?_
 match i, hu, hv with
 | 0, hu, hv => simp at hu hv; subst hu hv; exact hx
 | 1, hu, hv => simp at hu hv; subst hu hv; exact hy
 | i + 2, hu, hv => simp at hu
theorem NdR.alloc {w : World} {F : Nat → Prop} {x : NV} {t : Nd} (h : NdR w F x t) (o : Obj) : NdR (w.alloc o) F x t := h.belowW ((Below.refl _ _).alloc (Nat.le_refl _) o)
theorem TrE.setA {t : Nd} {w W : World} {z : Nat} {o : Obj} {x : NV} (hz : z < W.heap.size) (hb : Below w.heap.size w W) (hwz : w.heap.size ≤ z) (hx : NdR (W.alloc o) (fun b => z < b ∧ b < (W.alloc o).heap.size) x t) : TrE t w (.returned x.val) ((set12 W z x).alloc o) := by
 rw [set12_alloc hz]
 exact TrE.mk_ (set12_bel (hb.alloc hb.size _) hwz) ((hx.set12 (y := x) fun b h e => by rw [e] at h; exact Nat.lt_irrefl _ h.1).mono fun b h => ⟨Nat.le_trans hwz (Nat.le_of_lt h.1), by rw [set12_size]; exact h.2⟩)
theorem first_any (w : World) : Calls Tryd.prog 28 #[] w (TrE firstN w) := by
 have HB1 := LH ((Below.refl w.heap.size w).alloc (Nat.le_refl _) zO)
 have HZ1 := LH (Blk.new w 27 zA)
 go_enter Tryd.func28, Tryd.ntmps28
 go_wp2_with fail
 generalize w.alloc zO = w1 at *
 refine (term_any _ _).mono ?_
 rintro e w2 ⟨rfl, hb2⟩
 have HB2 := LH (HB1.out.trans (hb2.mono HB1.out.size)); have HZ2 := LH (HZ1.out.belowW hb2)
 clear hb2
 go_wp2_with fail
 refine (term_any _ _).mono ?_
 rintro e w3 ⟨rfl, hb3⟩
 have HB3 := LH (HB2.out.trans (hb3.mono HB2.out.size)); have HZ3 := LH (HZ2.out.belowW hb3)
 clear hb3
 have HK1 := LH ((Blk.new w3 27 #[.int .i64 1, .string ⟨#[]⟩, .string ⟨#[98]⟩, .int .i64 0, .bool false, .bool false, .string ⟨#[]⟩, .bool false, .bool false, .string ⟨#[]⟩, .slice none 0 0, .slice none 0 0, .int .i64 1, .string ⟨#[]⟩, .string ⟨#[99]⟩, .int .i64 0, .bool false, .bool false, .string ⟨#[]⟩, .bool false, .bool false, .string ⟨#[]⟩, .slice none 0 0, .slice none 0 0]).alloc (.cells #[.int .i64 11, .string ⟨#[]⟩, .string ⟨#[]⟩, .int .i64 0, .bool false, .bool false, .string ⟨#[]⟩, .bool false, .bool false, .string ⟨#[]⟩, .slice none 0 0, .slice (some ⟨w3.heap.size, 0, none⟩) 2 2] 27))
 have HO1 := LH (show Blk ((w3.alloc (.cells #[.int .i64 1, .string ⟨#[]⟩, .string ⟨#[98]⟩, .int .i64 0, .bool false, .bool false, .string ⟨#[]⟩, .bool false, .bool false, .string ⟨#[]⟩, .slice none 0 0, .slice none 0 0, .int .i64 1, .string ⟨#[]⟩, .string ⟨#[99]⟩, .int .i64 0, .bool false, .bool false, .string ⟨#[]⟩, .bool false, .bool false, .string ⟨#[]⟩, .slice none 0 0, .slice none 0 0] 27)).alloc (.cells #[.int .i64 11, .string ⟨#[]⟩, .string ⟨#[]⟩, .int .i64 0, .bool false, .bool false, .string ⟨#[]⟩, .bool false, .bool false, .string ⟨#[]⟩, .slice none 0 0, .slice (some ⟨w3.heap.size, 0, none⟩) 2 2] 27)) (w3.heap.size + 1) 27 #[.int .i64 11, .string ⟨#[]⟩, .string ⟨#[]⟩, .int .i64 0, .bool false, .bool false, .string ⟨#[]⟩, .bool false, .bool false, .string ⟨#[]⟩, .slice none 0 0, .slice (some ⟨w3.heap.size, 0, none⟩) 2 2] from by have h := Blk.new (w3.alloc (.cells #[.int .i64 1, .string ⟨#[]⟩, .string ⟨#[98]⟩, .int .i64 0, .bool false, .bool false, .string ⟨#[]⟩, .bool false, .bool false, .string ⟨#[]⟩, .slice none 0 0, .slice none 0 0, .int .i64 1, .string ⟨#[]⟩, .string ⟨#[99]⟩, .int .i64 0, .bool false, .bool false, .string ⟨#[]⟩, .bool false, .bool false, .string ⟨#[]⟩, .slice none 0 0, .slice none 0 0] 27)) 27 #[.int .i64 11, .string ⟨#[]⟩, .string ⟨#[]⟩, .int .i64 0, .bool false, .bool false, .string ⟨#[]⟩, .bool false, .bool false, .string ⟨#[]⟩, .slice none 0 0, .slice (some ⟨w3.heap.size, 0, none⟩) 2 2]; rw [World.size_alloc] at h; exact h)
 have HB4 := LH (show Below w.heap.size w ((w3.alloc (.cells #[.int .i64 1, .string ⟨#[]⟩, .string ⟨#[98]⟩, .int .i64 0, .bool false, .bool false, .string ⟨#[]⟩, .bool false, .bool false, .string ⟨#[]⟩, .slice none 0 0, .slice none 0 0, .int .i64 1, .string ⟨#[]⟩, .string ⟨#[99]⟩, .int .i64 0, .bool false, .bool false, .string ⟨#[]⟩, .bool false, .bool false, .string ⟨#[]⟩, .slice none 0 0, .slice none 0 0] 27)).alloc (.cells #[.int .i64 11, .string ⟨#[]⟩, .string ⟨#[]⟩, .int .i64 0, .bool false, .bool false, .string ⟨#[]⟩, .bool false, .bool false, .string ⟨#[]⟩, .slice none 0 0, .slice (some ⟨w3.heap.size, 0, none⟩) 2 2] 27)) from (HB3.out.alloc HB3.out.size _).alloc (by rw [World.size_alloc]; exact Nat.le_succ_of_le HB3.out.size) _)
 have HZ4 := LH ((HZ3.out.alloc (.cells #[.int .i64 1, .string ⟨#[]⟩, .string ⟨#[98]⟩, .int .i64 0, .bool false, .bool false, .string ⟨#[]⟩, .bool false, .bool false, .string ⟨#[]⟩, .slice none 0 0, .slice none 0 0, .int .i64 1, .string ⟨#[]⟩, .string ⟨#[99]⟩, .int .i64 0, .bool false, .bool false, .string ⟨#[]⟩, .bool false, .bool false, .string ⟨#[]⟩, .slice none 0 0, .slice none 0 0] 27)).alloc (.cells #[.int .i64 11, .string ⟨#[]⟩, .string ⟨#[]⟩, .int .i64 0, .bool false, .bool false, .string ⟨#[]⟩, .bool false, .bool false, .string ⟨#[]⟩, .slice none 0 0, .slice (some ⟨w3.heap.size, 0, none⟩) 2 2] 27))
 have HL3 := LH HZ3.out.lt
 have HNO := LH (show NdR ((w3.alloc (.cells #[.int .i64 1, .string ⟨#[]⟩, .string ⟨#[98]⟩, .int .i64 0, .bool false, .bool false, .string ⟨#[]⟩, .bool false, .bool false, .string ⟨#[]⟩, .slice none 0 0, .slice none 0 0, .int .i64 1, .string ⟨#[]⟩, .string ⟨#[99]⟩, .int .i64 0, .bool false, .bool false, .string ⟨#[]⟩, .bool false, .bool false, .string ⟨#[]⟩, .slice none 0 0, .slice none 0 0] 27)).alloc (.cells #[.int .i64 11, .string ⟨#[]⟩, .string ⟨#[]⟩, .int .i64 0, .bool false, .bool false, .string ⟨#[]⟩, .bool false, .bool false, .string ⟨#[]⟩, .slice none 0 0, .slice (some ⟨w3.heap.size, 0, none⟩) 2 2] 27)) (rng (w.heap.size + 1) (w3.heap.size + 1)) (nvOr w3.heap.size) orN from nd_two (x := nvTerm [98]) (y := nvTerm [99]) HK1.out ⟨HL3.out, Nat.lt_succ_self _⟩ (nd_term _ _ _) (nd_term _ _ _))
 have HT := LH (fun W => term_any ⟨#[97]⟩ W)
 have HS4 := LH (show w3.heap.size + 1 < ((w3.alloc (.cells #[.int .i64 1, .string ⟨#[]⟩, .string ⟨#[98]⟩, .int .i64 0, .bool false, .bool false, .string ⟨#[]⟩, .bool false, .bool false, .string ⟨#[]⟩, .slice none 0 0, .slice none 0 0, .int .i64 1, .string ⟨#[]⟩, .string ⟨#[99]⟩, .int .i64 0, .bool false, .bool false, .string ⟨#[]⟩, .bool false, .bool false, .string ⟨#[]⟩, .slice none 0 0, .slice none 0 0] 27)).alloc (.cells #[.int .i64 11, .string ⟨#[]⟩, .string ⟨#[]⟩, .int .i64 0, .bool false, .bool false, .string ⟨#[]⟩, .bool false, .bool false, .string ⟨#[]⟩, .slice none 0 0, .slice (some ⟨w3.heap.size, 0, none⟩) 2 2] 27)).heap.size from by rw [World.size_alloc, World.size_alloc]; omega)
 go_wp2_with fail
 clear HK1
 generalize ((w3.alloc (.cells #[.int .i64 1, .string ⟨#[]⟩, .string ⟨#[98]⟩, .int .i64 0, .bool false, .bool false, .string ⟨#[]⟩, .bool false, .bool false, .string ⟨#[]⟩, .slice none 0 0, .slice none 0 0, .int .i64 1, .string ⟨#[]⟩, .string ⟨#[99]⟩, .int .i64 0, .bool false, .bool false, .string ⟨#[]⟩, .bool false, .bool false, .string ⟨#[]⟩, .slice none 0 0, .slice none 0 0] 27)).alloc (.cells #[.int .i64 11, .string ⟨#[]⟩, .string ⟨#[]⟩, .int .i64 0, .bool false, .bool false, .string ⟨#[]⟩, .bool false, .bool false, .string ⟨#[]⟩, .slice none 0 0, .slice (some ⟨w3.heap.size, 0, none⟩) 2 2] 27)) = w4 at *
 generalize w3.heap.size = g3 at *
 have yzz := HO1.out
 obtain ⟨y0, y1, y2, y3, y4, y5, y6, y7, y8, y9, y10, y11, fy0, fy1, fy2, fy3, fy4, fy5, fy6, fy7, fy8, fy9, fy10, fy11, ly⟩ := blk12 yzz
 clear yzz
 have zzz := HZ4.out
 obtain ⟨z0, z1, z2, z3, z4, z5, z6, z7, z8, z9, z10, z11, fz0, fz1, fz2, fz3, fz4, fz5, fz6, fz7, fz8, fz9, fz10, fz11, lz⟩ := blk12 zzz
 clear zzz
 go_region_law (go_simp; go_at_call 47; refine (HT.out _).mono ?_; rintro e w5 ⟨rfl, hb5⟩; have hb6 : Below w4.heap.size w4 w5 := ((Below.refl w4.heap.size w4).drew).trans hb5; have HO5 := LH (HO1.out.belowW hb6); have HZ5 := LH (HZ4.out.belowW hb6); have HN5 := LH (HNO.out.belowW hb6); have HB5 := LH (HB4.out.trans (hb6.mono HB4.out.size)); have HS5 := LH (Nat.lt_of_lt_of_le HS4.out hb6.size); clear hb5 hb6 y0 y1 y2 y3 y4 y5 y6 y7 y8 y9 y10 y11 ly fy0 fy1 fy2 fy3 fy4 fy5 fy6 fy7 fy8 fy9 fy10 fy11 z0 z1 z2 z3 z4 z5 z6 z7 z8 z9 z10 z11 lz fz0 fz1 fz2 fz3 fz4 fz5 fz6 fz7 fz8 fz9 fz10 fz11; have yzz := HO5.out; have y0 := yzz.cell 0; have y1 := yzz.cell 1; have y2 := yzz.cell 2; have y3 := yzz.cell 3; have y4 := yzz.cell 4; have y5 := yzz.cell 5; have y6 := yzz.cell 6; have y7 := yzz.cell 7; have y8 := yzz.cell 8; have y9 := yzz.cell 9; have y10 := yzz.cell 10; have y11 := yzz.cell 11; have fy0 := yzz.frozen 0; have fy1 := yzz.frozen 1; have fy2 := yzz.frozen 2; have fy3 := yzz.frozen 3; have fy4 := yzz.frozen 4; have fy5 := yzz.frozen 5; have fy6 := yzz.frozen 6; have fy7 := yzz.frozen 7; have fy8 := yzz.frozen 8; have fy9 := yzz.frozen 9; have fy10 := yzz.frozen 10; have fy11 := yzz.frozen 11; have ly := yzz.lt; simp only [List.getElem?_toArray, List.getElem?_cons_zero, List.getElem?_cons_succ] at y0 y1 y2 y3 y4 y5 y6 y7 y8 y9 y10 y11; clear yzz; have zzz := HZ5.out; have z0 := zzz.cell 0; have z1 := zzz.cell 1; have z2 := zzz.cell 2; have z3 := zzz.cell 3; have z4 := zzz.cell 4; have z5 := zzz.cell 5; have z6 := zzz.cell 6; have z7 := zzz.cell 7; have z8 := zzz.cell 8; have z9 := zzz.cell 9; have z10 := zzz.cell 10; have z11 := zzz.cell 11; have fz0 := zzz.frozen 0; have fz1 := zzz.frozen 1; have fz2 := zzz.frozen 2; have fz3 := zzz.frozen 3; have fz4 := zzz.frozen 4; have fz5 := zzz.frozen 5; have fz6 := zzz.frozen 6; have fz7 := zzz.frozen 7; have fz8 := zzz.frozen 8; have fz9 := zzz.frozen 9; have fz10 := zzz.frozen 10; have fz11 := zzz.frozen 11; have lz := zzz.lt; simp only [List.getElem?_toArray, List.getElem?_cons_zero, List.getElem?_cons_succ] at z0 z1 z2 z3 z4 z5 z6 z7 z8 z9 z10 z11; clear zzz)
 all_goals
  have HNF := LH (show NdR (w5.alloc (.cells #[.int .i64 1, .string ⟨#[]⟩, .string ⟨#[97]⟩, .int .i64 0, .bool false, .bool false, .string ⟨#[]⟩, .bool false, .bool false, .string ⟨#[]⟩, .slice none 0 0, .slice none 0 0, .int .i64 11, .string ⟨#[]⟩, .string ⟨#[]⟩, .int .i64 0, .bool false, .bool false, .string ⟨#[]⟩, .bool false, .bool false, .string ⟨#[]⟩, .slice none 0 0, .slice (some ⟨g3, 0, none⟩) 2 2] 27)) (fun b => w.heap.size < b ∧ b < (w5.alloc (.cells #[.int .i64 1, .string ⟨#[]⟩, .string ⟨#[97]⟩, .int .i64 0, .bool false, .bool false, .string ⟨#[]⟩, .bool false, .bool false, .string ⟨#[]⟩, .slice none 0 0, .slice none 0 0, .int .i64 11, .string ⟨#[]⟩, .string ⟨#[]⟩, .int .i64 0, .bool false, .bool false, .string ⟨#[]⟩, .bool false, .bool false, .string ⟨#[]⟩, .slice none 0 0, .slice (some ⟨g3, 0, none⟩) 2 2] 27)).heap.size) (nvFirst w5.heap.size) firstN from nd_two (x := nvTerm [97]) (y := nvOr g3) (Blk.new w5 _ _) ⟨lz, by rw [World.size_alloc]; exact Nat.lt_succ_self _⟩ (nd_term _ _ _) ((HN5.out.alloc _).mono fun b h => ⟨h.1, by have := h.2; have := HS5.out; rw [World.size_alloc]; omega⟩))
  go_wp2
  refine bodyPost_ret (v := (nvFirst w5.heap.size).val) ?_ rfl ?_
  ·simp [results, Tryd.results28, go_sem, NV.val, nvFirst, bd0, str, lz, fz0, fz1, fz2, fz3, fz4, fz5, fz6, fz7, fz8, fz9, fz10, fz11, z0, z1, z2, z3, z4, z5, z6, z7, z8, z9, z10, z11]
  ·exact TrE.setA lz HB5.out (Nat.le_refl _) HNF.out
theorem first_good : goodN firstN = true := by simp [firstN, orN, termN, goodN, goodNs, ownN, bd0, Bd.nil]
theorem first_canon : canonN firstN = firstN := by simp [firstN, orN, termN, canonN, canonNs, canTop]
theorem first_nest : nestN firstN = 1 := by simp [firstN, orN, termN, nestN, nestNs, levN, levK, barK, deepK]
theorem first_size : sizeN firstN = 5 := by simp [firstN, orN, termN, sizeN, sizeNs]
theorem first_bk : bkN firstN ≤ 300000000000 := by simp [firstN, orN, termN, bkN, bkNs, bd0]
theorem first_form : formN firstN = [97, 32, 65, 78, 68, 32, 40, 98, 32, 79, 82, 32, 99, 41] := by
 have e1 : wordL [97] = [97] := by decide
 have e2 : wordL [98] = [98] := by decide
 have e3 : wordL [99] = [99] := by decide
 simp [firstN, orN, termN, formN, formNs, levN, levK, barK, brF, sepF, aroundF, headF, leafF, e1, e2, e3]
theorem first_print (w : World) (ea : List Addr) (hE : LawEnv w ea) (F : Nat → Prop) (y : NV) (hy : NdR w F y firstN) : Calls Tryd.prog 19 #[y.val] w fun e w' => Below w.heap.size w w' ∧ e = .returned (.tuple #[.string ⟨#[97, 32, 65, 78, 68, 32, 40, 98, 32, 79, 82, 32, 99, 41]⟩, .nilIface]) := by
 have h := pprint_yes firstN first_good w F y ea 17 hy first_bk hE.pr hE.node
 rw [first_canon, first_form] at h
 exact h
theorem first_nestc (w : World) (ea : List Addr) (hE : LawEnv w ea) (F : Nat → Prop) (y : NV) (hy : NdR w F y firstN) : Calls Tryd.prog 20 #[y.val] w fun e w' => Below w.heap.size w w' ∧ e = .returned (.tuple #[.int .i64 1, .nilIface]) := by
 have h := pnestw_yes firstN first_good w F y ea 17 hy (Nat.le_trans first_bk (by decide)) hE.pr hE.node
 rw [first_canon, first_nest] at h
 exact h
theorem first_sizec (w : World) (F : Nat → Prop) (y : NV) (hy : NdR w F y firstN) : Calls Tryd.prog 18 #[y.val] w fun e w' => e = .returned (.int .i64 5) ∧ Below w.heap.size w w' := by
 have h := psize_any firstN w F y hy (Nat.le_trans first_bk (by decide))
 unfold SzRet at h
 rw [first_size] at h
 exact h
theorem first_samec (w : World) (F G : Nat → Prop) (x y : NV) (hx : NdR w F x firstN) (hy : NdR w G y firstN) : Calls Tryd.prog 14 #[x.val, y.val] w (BoolRet true w) := by
 have h := psame_any firstN firstN w F G x y hx hy
 rw [show sameN firstN firstN = true from (same_iff _ _).2 rfl] at h
 exact h
def zeroN : Nd := .mk 0 [] [] 0 bd0 bd0 [] []
theorem zero_bad : goodN zeroN = false := by simp [zeroN, goodN, ownN]
theorem zero_check (w : World) (ea : List Addr) (hE : LawEnv w ea) : Calls Tryd.prog 17 #[.agg zA] w fun e w' => e = .returned (errI ea 17) ∧ Below w.heap.size w w' := by
 have h := pcheck_any zeroN w (fun _ => False) ⟨0, [], [], 0, bd0, bd0, ⟨none, 0, 0⟩, ⟨none, 0, 0⟩⟩ ea 17 (.mk (RdF.nil _ _ _) (RdF.nil _ _ _) rfl fun i x t hx _ => by simp at hx) (by simp [zeroN, bkN, bkNs, bd0]) hE.pr.asks hE.node
 refine h.mono fun e w' h2 => ?_
 obtain ⟨h3, h4⟩ := h2.ino zero_bad
 exact ⟨h4, h3⟩
theorem fixed_any (w : World) (ea : List Addr) (hE : LawEnv w ea) : Calls Tryd.prog 9 #[] w (BoolRet true w) := by
 have HE := LH hE
 have HF := LH (fun W => first_any W)
 have HB0 := LH (Below.refl w.heap.size w)
 clear hE
 go_enter Tryd.func9, Tryd.ntmps9
 go_wp2_with fail
 refine (HF.out _).mono ?_
 rintro e w1 ⟨hb1, kdA, xnA, flA, txA, laA, lbA, lcA, raA, rbA, rcA, oaA, onA, ocA, kaA, knA, kcA, rfl, hx⟩
 have HXA := LH hx
 have HB1 := LH (HB0.out.trans (hb1.mono HB0.out.size))
 have HE1 := LH (HE.out.below HB1.out)
 clear hb1 hx
 have HC := LH (first_print w1 ea HE1.out _ _ HXA.out)
 unfold NV.val at HC
 simp only [] at HC
 go_wp2_with fail
 refine HC.out.mono ?_
 rintro e w2 ⟨hb2, rfl⟩
 have HB2 := LH (HB1.out.trans (hb2.mono HB1.out.size))
 have HE2 := LH (HE.out.below HB2.out)
 clear HC
 go_wp2_with fail
 refine (HF.out _).mono ?_
 rintro e w3 ⟨hb3, kdB, xnB, flB, txB, laB, lbB, lcB, raB, rbB, rcB, oaB, onB, ocB, kaB, knB, kcB, rfl, hx⟩
 have HXB := LH hx
 have HB3 := LH (HB2.out.trans (hb3.mono HB2.out.size))
 have HE3 := LH (HE.out.below HB3.out)
 clear hb3 hx
 have HC := LH (first_nestc w3 ea HE3.out _ _ HXB.out)
 unfold NV.val at HC
 simp only [] at HC
 go_wp2_with fail
 refine HC.out.mono ?_
 rintro e w4 ⟨hb4, rfl⟩
 have HB4 := LH (HB3.out.trans (hb4.mono HB3.out.size))
 have HE4 := LH (HE.out.below HB4.out)
 clear HC
 go_wp2_with fail
 refine (HF.out _).mono ?_
 rintro e w5 ⟨hb5, kdC, xnC, flC, txC, laC, lbC, lcC, raC, rbC, rcC, oaC, onC, ocC, kaC, knC, kcC, rfl, hx⟩
 have HXC := LH hx
 have HB5 := LH (HB4.out.trans (hb5.mono HB4.out.size))
 have HE5 := LH (HE.out.below HB5.out)
 clear hb5 hx
 have HC := LH (first_sizec w5 _ _ HXC.out)
 unfold NV.val at HC
 simp only [] at HC
 go_wp2_with fail
 refine HC.out.mono ?_
 rintro e w6 ⟨rfl, hb6⟩
 have HB6 := LH (HB5.out.trans (hb6.mono HB5.out.size))
 have HE6 := LH (HE.out.below HB6.out)
 clear HC
 have HC := LH (zero_check w6 ea HE6.out)
 go_wp2_with fail
 refine HC.out.mono ?_
 rintro e w7 ⟨rfl, hb7⟩
 have HB7 := LH (HB6.out.trans (hb7.mono HB6.out.size))
 have HE7 := LH (HE.out.below HB7.out)
 clear HC
 have HNM := LH (Num_17 ea w7 HE7.out.er)
 go_wp2_with fail
 refine HNM.out.mono ?_
 rintro e w8 ⟨rfl, rfl⟩
 go_wp2_with fail
 refine (HF.out _).mono ?_
 rintro e w9 ⟨hb9, kdD, xnD, flD, txD, laD, lbD, lcD, raD, rbD, rcD, oaD, onD, ocD, kaD, knD, kcD, rfl, hx⟩
 have HXD := LH hx
 have HB9 := LH (HB7.out.trans (hb9.mono HB7.out.size))
 have HE9 := LH (HE.out.below HB9.out)
 have HLT := LH hb9
 clear hb9 hx
 go_wp2_with fail
 refine (HF.out _).mono ?_
 rintro e w10 ⟨hb10, kdE, xnE, flE, txE, laE, lbE, lcE, raE, rbE, rcE, oaE, onE, ocE, kaE, knE, kcE, rfl, hx⟩
 have HXE := LH hx
 have HB10 := LH (HB9.out.trans (hb10.mono HB9.out.size))
 have HE10 := LH (HE.out.below HB10.out)
 have HXD2 := LH (HXD.out.belowW hb10)
 clear hb10 hx
 have HC := LH (first_samec w10 _ _ _ _ HXD2.out HXE.out)
 unfold NV.val at HC
 simp only [] at HC
 go_wp2_with fail
 refine HC.out.mono ?_
 rintro e w11 ⟨rfl, hb11⟩
 have HB11 := LH (HB10.out.trans (hb11.mono HB10.out.size))
 have HE11 := LH (HE.out.below HB11.out)
 clear HC
 go_wp2
 go_ret
 exact ⟨rfl, HB11.out⟩
theorem decN_small {n : Nat} (h : n < 10) : decN n = [UInt8.ofNat (48 + n)] := by unfold decN; exact Lib.decDigits_one h
theorem decN_big {n : Nat} (h : ¬ n < 10) : decN n = decN (n / 10) ++ [UInt8.ofNat (48 + n % 10)] := by
 unfold decN
 rw [Lib.decDigits, dif_neg h]
def dgP (m : Nat) : List UInt8 := if m = 0 then [] else decN m
theorem dgP_step {m : Nat} (h : 0 < m) : dgP m = dgP (m / 10) ++ [UInt8.ofNat (48 + m % 10)] := by
 unfold dgP
 rw [if_neg (by omega)]
 by_cases h2 : m < 10
 ·rw [if_pos (by omega), decN_small h2, Nat.mod_eq_of_lt h2]; rfl
 ·rw [if_neg (by omega), decN_big h2]
theorem chr_dig15 (m : Nat) : (chr (48 + (m : Int) % 10)).data.toList = [UInt8.ofNat (48 + m % 10)] := by
 rw [chr_data]
 congr 2
def strSz : Value → Nat
 | .string s => s.size
 | _ => 0
def RdgRel (n : Nat) (w : World) (nv sv : Value) (wr : World) : Prop :=
 ∃ (m : Nat) (s : ByteArray), m ≤ n ∧ nv = .int .i64 (m : Int) ∧ sv = .string s ∧ ((s = ⟨#[]⟩ ∧ m = n) ∨ (0 < s.size ∧ decN n = dgP m ++ s.data.toList)) ∧ Below w.heap.size w wr
theorem rdg_size {n m : Nat} {s : ByteArray} (hn : n < 9223372036854775808) (h : decN n = dgP m ++ s.data.toList) : s.size ≤ 20 := by
 have h1 := decN_len n hn
 rw [h, List.length_append, ← ba_size] at h1
 omega
theorem rdigits_any (n : Nat) (hn : n < 9223372036854775808) (w : World) :
  Calls Tryd.prog 95 #[.int .i64 (n : Int)] w (StrRet (str (decN n)) w) := by
 have hcv := fun (W : World) (x : Int) => conv_one (P := Tryd.prog) 64 5 5 Tryd.underlying64 Tryd.underlying5 9 Tryd.underlying9 W x
 go_enter Tryd.func95, Tryd.ntmps95
 go_wp2
 go_loopw [0, 3] (fun nv sv wr => RdgRel n w nv sv wr) (fun nv sv _ => (intOf nv).toNat + (1 - strSz sv))
 case atStart => exact ⟨n, ⟨#[]⟩, Nat.le_refl _, rfl, rfl, .inl ⟨rfl, rfl⟩, Below.refl _ _⟩
 case round =>
  obtain ⟨m, s, hm, rfl, rfl, hd, hb⟩ := hrel
  have HB := LH hb
  have hBr := hb.size
  clear hb
  have hcs := chr_size (48 + (m : Int) % 10)
  have hm1 : 0 ≤ (m : Int) % 10 ∧ (m : Int) % 10 ≤ 9 := by omega
  have hm3 : 0 ≤ (m : Int) ∧ (m : Int) ≤ 9223372036854775807 := by omega
  have hm2 : 0 ≤ (m : Int) / 10 ∧ (m : Int) / 10 ≤ 9223372036854775807 := by omega
  by_cases hlt : 0 < m
  ·have hszs : s.size ≤ 20 := by
    rcases hd with ⟨rfl, _⟩ | ⟨_, h⟩
    ·exact Nat.zero_le _
    ·exact rdg_size hn h
   have HN := LH (show 0 < (chr (48 + (m : Int) % 10) ++ s).size ∧ decN n = dgP (m / 10) ++ (chr (48 + (m : Int) % 10) ++ s).data.toList from by
    refine ⟨by rw [ba_append_size, hcs]; omega, ?_⟩
    rw [ba_append, chr_dig15, ← List.append_assoc, ← dgP_step hlt]
    rcases hd with ⟨rfl, rfl⟩ | ⟨_, h⟩
    ·unfold dgP; rw [if_neg (by omega)]; simp
    ·exact h)
   have hszz : (chr (48 + (m : Int) % 10)).size + s.size ≤ 100 := by rw [hcs]; omega
   have hd1 : decide ((0 : Int) < (m : Int)) = true := decide_eq_true (by omega)
   have hd2 : decide (0 < m) = true := decide_eq_true hlt
   have HLT := LH hlt
   have HCS := LH hcs
   have HM := LH hm
   clear hd hcs hm
   go_wp2
   go_roundw
   case rel => exact ⟨m / 10, chr (48 + (m : Int) % 10) ++ s, by have := HM.out; omega, by go_num, rfl, .inr HN.out, HB.out.alloc hBr _⟩
   case measure => have := HLT.out; have := HN.out.1; simp [intOf, strSz]; omega
  ·obtain rfl : m = 0 := by omega
   rcases hd with ⟨rfl, rfl⟩ | ⟨hs, h⟩
   ·have HN := LH (show 0 < (chr 48 ++ ⟨#[]⟩ : ByteArray).size ∧ decN 0 = dgP 0 ++ (chr 48 ++ ⟨#[]⟩ : ByteArray).data.toList from ⟨by decide, by rw [decN_small (by decide)]; rfl⟩)
    go_wp2
    go_roundw
    case rel => exact ⟨0, _, Nat.le_refl _, by go_num, rfl, .inr HN.out, HB.out.alloc hBr _⟩
    case measure => first | decide | (simp [intOf, strSz, chr_size]) | (have := HN.out.1; simp [intOf, strSz]; omega)
   ·have HF := LH (show s = str (decN n) from ba_ext (by rw [str_data, h]; rfl))
    have h0 : s.toList ≠ [] := by rw [ba_toList]; intro e; rw [ba_size, e] at hs; exact absurd hs (by decide)
    have e1 : (s.toList == []) = false := by rw [beq_eq_false_iff_ne]; exact h0
    have e2 : s.toList.isEmpty = false := by cases hq : s.toList with | nil => exact absurd hq h0 | cons c q => rfl
    clear h hs hcs
    go_wp2
    go_ret
    exact ⟨congrArg (fun z => Ending.returned (.string z)) HF.out, HB.out⟩
theorem wrap15_i64 (z : Int) (h0 : 0 ≤ z) (h1 : z < 9223372036854775808) : IntKind.i64.wrap z = z := by
 simp [IntKind.wrap, IntKind.bits, IntKind.signed]
 omega
theorem pprint_as {ar c : Nd} {fs : ByteArray} (hg : goodN ar = true) (hc : canonN ar = c) (hf : str (formN c) = fs) {w : World} {F : Nat → Prop} {x : NV} {ea : List Addr} (hx : NdR w F x ar) (hbk : bkN ar ≤ 300000000000) (hE : LawEnv w ea) :
  Calls Tryd.prog 19 #[x.val] w fun e w' => Below w.heap.size w w' ∧ e = .returned (.tuple #[.string fs, .nilIface]) := by
 have h := pprint_yes ar hg w F x ea 17 hx hbk hE.pr hE.node
 rw [hc, hf] at h
 exact h
theorem pcanon_as {ar c : Nd} (hg : goodN ar = true) (hc : canonN ar = c) {w : World} {F : Nat → Prop} {x : NV} {ea : List Addr} (hx : NdR w F x ar) (hbk : bkN ar ≤ 300000000000) (hE : LawEnv w ea) :
  Calls Tryd.prog 16 #[x.val] w (TrE2 c .nilIface w) := by
 have h := pcanonw_yes ar hg w F x ea 17 hx (Nat.le_trans hbk (by decide)) hE.pr.asks hE.node
 rw [hc] at h
 exact h
theorem pnest_as {ar c : Nd} {d : Nat} (hg : goodN ar = true) (hc : canonN ar = c) (hd : nestN c = d) {w : World} {F : Nat → Prop} {x : NV} {ea : List Addr} (hx : NdR w F x ar) (hbk : bkN ar ≤ 300000000000) (hE : LawEnv w ea) :
  Calls Tryd.prog 20 #[x.val] w fun e w' => Below w.heap.size w w' ∧ e = .returned (.tuple #[.int .i64 (d : Int), .nilIface]) := by
 have h := pnestw_yes ar hg w F x ea 17 hx (Nat.le_trans hbk (by decide)) hE.pr hE.node
 rw [hc, hd] at h
 exact h
theorem rsame_as {t u : Nd} {b : Bool} (h : sameN t u = b) {w : World} {F G : Nat → Prop} {x y : NV} (hx : NdR w F x t) (hy : NdR w G y u) :
  Calls Tryd.prog 13 #[x.val, y.val] w fun e w' => e = .returned (.bool b) ∧ Below w.heap.size w w' := by
 have h2 := rsame_any t u w F G x y hx hy
 rw [h] at h2
 exact h2
theorem same_self (t : Nd) : sameN t t = true := (same_iff _ _).2 rfl
theorem form_short {t : Nd} (hg : goodN t = true) (hb : bkN t ≤ 1048576) (hw : wtN t ≤ 4000) : (formN (canonN t)).length ≤ 900000000000 := by
 have h1 := form_len (canonN t) (canon_good t hg)
 have h2 := canon_bk t
 have h3 := size_wt (canonN t)
 have h4 := canon_wt t
 omega
end Go.Proofs.YthcldpminmhgkaaDoor
end
