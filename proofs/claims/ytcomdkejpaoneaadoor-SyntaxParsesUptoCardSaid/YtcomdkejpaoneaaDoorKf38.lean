/- Merged for a claim by shake.py: Tj -/
import Derived.Test.YtcomdkejpaoneaaDoorKfA
import Derived.Test.YtcomdkejpaoneaaDoorKf2
import Derived.Test.YtcomdkejpaoneaaDoorKf36
import Derived.Test.YtcomdkejpaoneaaDoorKf37
section
namespace Go.Proofs.YtcomdkejpaoneaaDoor
open Go.RowKit
set_option maxRecDepth 100000
set_option maxHeartbeats 8000000
set_option linter.unusedSimpArgs false
set_option linter.unusedVariables false
theorem row_end {w W : World} {B : Nat} {v : Value} {ro : List Bool} {a : Nat} {s : Bool} {r : Option Rw} (hv : RdL rbS w B v ro) (hB : B ≤ w.heap.size) (hb : Below w.heap.size w W) (hr : r = some ⟨a, s, ro⟩) (hX : RwX (.agg #[.int .i64 (a : Int), .bool s, v]) := by exact ⟨_, _, _, _, _, rfl⟩) : RwRet r v ro w (.returned (.tuple #[.agg #[.int .i64 (a : Int), .bool s, v], .bool true])) W :=
 RwRet.good hb hr rfl (RwV.of hv hB hb a s) hX
theorem store3 {w W : World} {z : Nat} {u0 u1 u2 : Value} (hb : Below w.heap.size w W) (hz : w.heap.size ≤ z) : Below w.heap.size w (((W.setCell ⟨z, 0, none⟩ u0).setCell ⟨z, 1, none⟩ u1).setCell ⟨z, 2, none⟩ u2) :=
 ((hb.setCell (p := ⟨z, 0, none⟩) hz _).setCell (p := ⟨z, 1, none⟩) hz _).setCell (p := ⟨z, 2, none⟩) hz _
theorem rstep_any (x : Value) (r : Rw) (t : Lt) (w : World) (B : Nat) (v : Value) (hx : RwV w B v x r) (hl : r.open_.length ≤ 1000000000) (hst : r.at_ ≤ 14) :
  Calls Tryd.prog 49 #[x, ltVal t] w (RwRet (rStep r t) v r.open_ w) := by
 obtain ⟨k, tx, n, a, b⟩ := t
 obtain ⟨hBw, rfl, hv⟩ := hx
 obtain ⟨A, cap, rfl, hc1, hc2⟩ := hv.open_
 obtain ⟨ra, rs, ro⟩ := r
 simp only [] at hv hc1 hl hst
 have HV := LH hv; have HBW := LH hBw; clear hBw
 have HL := LH hl
 clear hv hl hc1 hc2
 obtain ⟨ed, hed⟩ : ∃ ed, ed = editsT ⟨k, tx, n, a, b⟩ := ⟨_, rfl⟩
 obtain ⟨sl, hsl⟩ : ∃ sl, sl = slopT ⟨k, tx, n, a, b⟩ := ⟨_, rfl⟩
 have HED := LH hed; have HSL := LH hsl
 clear hed hsl
 unfold ltVal
 simp only []
 have HBR := LH ((((Blk.new w 99 #[.int .i64 (ra : Int), .bool rs, .slice A ro.length cap]).alloc (.cells #[.int .i64 k, .string (str tx), .int .i64 n, .int .i64 a, .int .i64 b] 49)).alloc (.cells #[.int .i64 0, .bool false, .slice none 0 0] 99)))
 have HBT := LH ((Blk.new (w.alloc (.cells #[.int .i64 (ra : Int), .bool rs, .slice A ro.length cap] 99)) 49 #[.int .i64 k, .string (str tx), .int .i64 n, .int .i64 a, .int .i64 b]).alloc (.cells #[.int .i64 0, .bool false, .slice none 0 0] 99))
 have HBZ := LH (Blk.new ((w.alloc (.cells #[.int .i64 (ra : Int), .bool rs, .slice A ro.length cap] 99)).alloc (.cells #[.int .i64 k, .string (str tx), .int .i64 n, .int .i64 a, .int .i64 b] 49)) 99 #[.int .i64 0, .bool false, .slice none 0 0])
 have HB3 := LH (below3 w (.cells #[.int .i64 (ra : Int), .bool rs, .slice A ro.length cap] 99) (.cells #[.int .i64 k, .string (str tx), .int .i64 n, .int .i64 a, .int .i64 b] 49) (.cells #[.int .i64 0, .bool false, .slice none 0 0] 99))
 simp only [World.size_alloc] at HBT HBZ
 go_enter Tryd.func49, Tryd.ntmps49
 go_upto_region 1 with (fail)
 generalize ((w.alloc (.cells #[.int .i64 (ra : Int), .bool rs, .slice A ro.length cap] 99)).alloc (.cells #[.int .i64 k, .string (str tx), .int .i64 n, .int .i64 a, .int .i64 b] 49)).alloc (.cells #[.int .i64 0, .bool false, .slice none 0 0] 99) = w3 at *
 have hsz3 : w.heap.size ≤ w3.heap.size := HB3.out.size
 have r0 := HBR.out.cell 0; have r1 := HBR.out.cell 1; have r2 := HBR.out.cell 2
 have fr0 := HBR.out.frozen 0; have fr1 := HBR.out.frozen 1; have fr2 := HBR.out.frozen 2; have lr := HBR.out.lt
 have t0 := HBT.out.cell 0; have t1 := HBT.out.cell 1; have t2 := HBT.out.cell 2; have t3 := HBT.out.cell 3; have t4 := HBT.out.cell 4; have lt := HBT.out.lt
 have z0 := HBZ.out.cell 0; have z1 := HBZ.out.cell 1; have z2 := HBZ.out.cell 2
 have fz0 := HBZ.out.frozen 0; have fz1 := HBZ.out.frozen 1; have fz2 := HBZ.out.frozen 2; have lz := HBZ.out.lt
 simp only [List.getElem?_toArray, List.getElem?_cons_zero, List.getElem?_cons_succ] at r0 r1 r2 t0 t1 t2 t3 t4 z0 z1 z2
 have HZS := LH (show w.heap.size ≠ w.heap.size + 1 + 1 from by omega)
 have HLR := LH lr; have HLZ := LH lz
 go_cut [6] (fun s wx => s = .bool ed ∧ w3 = wx)
 case first =>
  by_cases h20 : k = 20
  ·have e20 : (k == 20) = true := by simpa using h20
   by_cases h1 : n = -1
   ·have e1 : (n == -1) = true := by simpa using h1
    have HE := LH (show ed = true from by rw [HED.out]; simp [editsT, h20, h1])
    clear h20 h1
    go_wp2; go_meet; exact ⟨by rw [HE.out], rfl⟩
   have e1 : (n == -1) = false := by simpa using h1
   by_cases h2 : n = 1
   ·have e2 : (n == 1) = true := by simpa using h2
    have HE := LH (show ed = true from by rw [HED.out]; simp [editsT, h20, h2])
    clear h20 h1 h2
    go_wp2; go_meet; exact ⟨by rw [HE.out], rfl⟩
   have e2 : (n == 1) = false := by simpa using h2
   by_cases h3 : n = 2
   ·have e3 : (n == 2) = true := by simpa using h3
    have HE := LH (show ed = true from by rw [HED.out]; simp [editsT, h20, h3])
    clear h20 h1 h2 h3
    go_wp2; go_meet; exact ⟨by rw [HE.out], rfl⟩
   have e3 : (n == 2) = false := by simpa using h3
   have HE := LH (show ed = false from by rw [HED.out]; simp [editsT, h20, h1, h2, h3])
   clear h20 h1 h2 h3
   go_wp2; go_meet; exact ⟨by rw [HE.out], rfl⟩
  ·have e20 : (k == 20) = false := by simpa using h20
   have HE := LH (show ed = false from by rw [HED.out]; simp [editsT, h20])
   clear h20
   go_wp2; go_meet; exact ⟨by rw [HE.out], rfl⟩
 case rest =>
 obtain ⟨rfl, rfl⟩ := hcut
 go_upto_region 2 with (fail)
 go_cut [7] (fun s wx => s = .bool sl ∧ w3 = wx)
 case first =>
  by_cases h20 : k = 20
  ·have e20 : (k == 20) = true := by simpa using h20
   by_cases h1 : 0 ≤ n
   ·have e1 : decide (0 ≤ n) = true := by simpa using h1
    have HE := LH (show sl = true from by rw [HSL.out]; simp [slopT, h20, h1])
    clear h20
    go_wp2; go_meet; exact ⟨by rw [HE.out], rfl⟩
   have e1 : decide (0 ≤ n) = false := by simpa using h1
   have HE := LH (show sl = false from by rw [HSL.out]; simp [slopT, h20, h1])
   clear h20
   go_wp2; go_meet; exact ⟨by rw [HE.out], rfl⟩
  ·have e20 : (k == 20) = false := by simpa using h20
   have HE := LH (show sl = false from by rw [HSL.out]; simp [slopT, h20])
   clear h20
   go_wp2; go_meet; exact ⟨by rw [HE.out], rfl⟩
 case rest =>
 obtain ⟨rfl, rfl⟩ := hcut
 by_cases hs : ra = 14
 ·skip
  have q14 : ((ra : Int) == 14) = true := by rw [hs]; rfl
  have HR := LH (show rStep ⟨ra, rs, ro⟩ ⟨k, tx, n, a, b⟩ = none from by unfold rStep; rw [if_pos (by simp only []; omega)])
  clear hs hst 
  go_wp2
  refine bodyPost_ret (v := .tuple #[.agg #[.int .i64 (ra : Int), .bool rs, .slice A ro.length cap], .bool false]) ?_ rfl ?_
  ·simp [results, Tryd.results49, go_sem, fz0, fz1, fz2, lz, z0, z1, z2]
  ·exact RwRet.bad (store3 HB3.out (by omega)) HR.out rfl
 have m14 := hs; clear hs
 by_cases hs : ra = 0
 ·skip
  have q14 : ((ra : Int) == 14) = false := by rw [hs]; rfl
  have q0 : ((ra : Int) == 0) = true := by rw [hs]; rfl
  have HR := LH (show rStep ⟨ra, rs, ro⟩ ⟨k, tx, n, a, b⟩ = rClause ⟨ra, rs, ro⟩ ⟨k, tx, n, a, b⟩ from by unfold rStep; rw [if_neg (by simp only []; omega), if_pos (by simp only []; omega)])
  clear hs hst m14
  go_wp2_with fail
  refine (rclause_any _ ⟨ra, rs, ro⟩ ⟨k, tx, n, a, b⟩ w3 B _ ⟨Nat.le_trans HBW.out HB3.out.size, rfl, HV.out.belowW HBW.out HB3.out⟩ HL.out).mono ?_
  rintro e w5 ⟨hb5, x2, rfl, hX, hx2⟩
  have HX := LH hX
  obtain ⟨a2, s2, A2, n2, c2, rfl⟩ := hX
  have HZ5 := LH (HBZ.out.belowW hb5)
  have HF := LH (RwRet.fwd (B := B) (z := w.heap.size + 1 + 1) (u0 := .int .i64 a2) (u1 := .bool s2) (u2 := .slice A2 n2 c2) HBW.out (by omega) HBZ.out.lt HB3.out hb5 HX.out hx2)
  clear r0 r1 r2 fr0 fr1 fr2 t0 t1 t2 t3 t4 z0 z1 z2 fz0 fz1 fz2 lz
  have fz0 := HZ5.out.frozen 0; have fz1 := HZ5.out.frozen 1; have fz2 := HZ5.out.frozen 2; have lz := HZ5.out.lt
  have z0 := HZ5.out.cell 0; have z1 := HZ5.out.cell 1; have z2 := HZ5.out.cell 2
  simp only [List.getElem?_toArray, List.getElem?_cons_zero, List.getElem?_cons_succ] at z0 z1 z2
  clear hb5 hx2
  generalize (rClause ⟨ra, rs, ro⟩ ⟨k, tx, n, a, b⟩) = rr at *
  obtain ⟨bb, hbb⟩ : ∃ bb, bb = rr.isSome := ⟨_, rfl⟩
  rw [← hbb] at HF ⊢
  have HBB := LH hbb
  clear hbb
  go_wp2
  refine bodyPost_ret (v := .tuple #[.agg #[.int .i64 a2, .bool s2, .slice A2 n2 c2], .bool bb]) ?_ rfl ?_
  ·simp [results, Tryd.results49, go_sem, fz0, fz1, fz2, lz, z0, z1, z2]
  ·rw [HR.out]; exact HF.out
 have m0 := hs; clear hs
 by_cases hs : ra = 1
 ·skip
  have q14 : ((ra : Int) == 14) = false := by rw [hs]; rfl
  have q0 : ((ra : Int) == 0) = false := by rw [hs]; rfl
  have q1 : ((ra : Int) == 1) = true := by rw [hs]; rfl
  have HR := LH (show rStep ⟨ra, rs, ro⟩ ⟨k, tx, n, a, b⟩ = rBegun ⟨ra, rs, ro⟩ ⟨k, tx, n, a, b⟩ false from by unfold rStep; rw [if_neg (by simp only []; omega), if_neg (by simp only []; omega), if_pos (by simp only []; omega)])
  clear hs hst m14 m0
  go_wp2_with fail
  refine (rbegun_any _ ⟨ra, rs, ro⟩ ⟨k, tx, n, a, b⟩ false w3 B _ ⟨Nat.le_trans HBW.out HB3.out.size, rfl, HV.out.belowW HBW.out HB3.out⟩ HL.out).mono ?_
  rintro e w5 ⟨hb5, x2, rfl, hX, hx2⟩
  have HX := LH hX
  obtain ⟨a2, s2, A2, n2, c2, rfl⟩ := hX
  have HZ5 := LH (HBZ.out.belowW hb5)
  have HF := LH (RwRet.fwd (B := B) (z := w.heap.size + 1 + 1) (u0 := .int .i64 a2) (u1 := .bool s2) (u2 := .slice A2 n2 c2) HBW.out (by omega) HBZ.out.lt HB3.out hb5 HX.out hx2)
  clear r0 r1 r2 fr0 fr1 fr2 t0 t1 t2 t3 t4 z0 z1 z2 fz0 fz1 fz2 lz
  have fz0 := HZ5.out.frozen 0; have fz1 := HZ5.out.frozen 1; have fz2 := HZ5.out.frozen 2; have lz := HZ5.out.lt
  have z0 := HZ5.out.cell 0; have z1 := HZ5.out.cell 1; have z2 := HZ5.out.cell 2
  simp only [List.getElem?_toArray, List.getElem?_cons_zero, List.getElem?_cons_succ] at z0 z1 z2
  clear hb5 hx2
  generalize (rBegun ⟨ra, rs, ro⟩ ⟨k, tx, n, a, b⟩ false) = rr at *
  obtain ⟨bb, hbb⟩ : ∃ bb, bb = rr.isSome := ⟨_, rfl⟩
  rw [← hbb] at HF ⊢
  have HBB := LH hbb
  clear hbb
  go_wp2
  refine bodyPost_ret (v := .tuple #[.agg #[.int .i64 a2, .bool s2, .slice A2 n2 c2], .bool bb]) ?_ rfl ?_
  ·simp [results, Tryd.results49, go_sem, fz0, fz1, fz2, lz, z0, z1, z2]
  ·rw [HR.out]; exact HF.out
 have m1 := hs; clear hs
 by_cases hs : ra = 2
 ·skip
  have q14 : ((ra : Int) == 14) = false := by rw [hs]; rfl
  have q0 : ((ra : Int) == 0) = false := by rw [hs]; rfl
  have q1 : ((ra : Int) == 1) = false := by rw [hs]; rfl
  have q2 : ((ra : Int) == 2) = true := by rw [hs]; rfl
  have HR := LH (show rStep ⟨ra, rs, ro⟩ ⟨k, tx, n, a, b⟩ = rBegun ⟨ra, rs, ro⟩ ⟨k, tx, n, a, b⟩ true from by unfold rStep; rw [if_neg (by simp only []; omega), if_neg (by simp only []; omega), if_neg (by simp only []; omega), if_pos (by simp only []; omega)])
  clear hs hst m14 m0 m1
  go_wp2_with fail
  refine (rbegun_any _ ⟨ra, rs, ro⟩ ⟨k, tx, n, a, b⟩ true w3 B _ ⟨Nat.le_trans HBW.out HB3.out.size, rfl, HV.out.belowW HBW.out HB3.out⟩ HL.out).mono ?_
  rintro e w5 ⟨hb5, x2, rfl, hX, hx2⟩
  have HX := LH hX
  obtain ⟨a2, s2, A2, n2, c2, rfl⟩ := hX
  have HZ5 := LH (HBZ.out.belowW hb5)
  have HF := LH (RwRet.fwd (B := B) (z := w.heap.size + 1 + 1) (u0 := .int .i64 a2) (u1 := .bool s2) (u2 := .slice A2 n2 c2) HBW.out (by omega) HBZ.out.lt HB3.out hb5 HX.out hx2)
  clear r0 r1 r2 fr0 fr1 fr2 t0 t1 t2 t3 t4 z0 z1 z2 fz0 fz1 fz2 lz
  have fz0 := HZ5.out.frozen 0; have fz1 := HZ5.out.frozen 1; have fz2 := HZ5.out.frozen 2; have lz := HZ5.out.lt
  have z0 := HZ5.out.cell 0; have z1 := HZ5.out.cell 1; have z2 := HZ5.out.cell 2
  simp only [List.getElem?_toArray, List.getElem?_cons_zero, List.getElem?_cons_succ] at z0 z1 z2
  clear hb5 hx2
  generalize (rBegun ⟨ra, rs, ro⟩ ⟨k, tx, n, a, b⟩ true) = rr at *
  obtain ⟨bb, hbb⟩ : ∃ bb, bb = rr.isSome := ⟨_, rfl⟩
  rw [← hbb] at HF ⊢
  have HBB := LH hbb
  clear hbb
  go_wp2
  refine bodyPost_ret (v := .tuple #[.agg #[.int .i64 a2, .bool s2, .slice A2 n2 c2], .bool bb]) ?_ rfl ?_
  ·simp [results, Tryd.results49, go_sem, fz0, fz1, fz2, lz, z0, z1, z2]
  ·rw [HR.out]; exact HF.out
 have m2 := hs; clear hs
 by_cases hs : ra = 3
 ·skip
  have q14 : ((ra : Int) == 14) = false := by rw [hs]; rfl
  have q0 : ((ra : Int) == 0) = false := by rw [hs]; rfl
  have q1 : ((ra : Int) == 1) = false := by rw [hs]; rfl
  have q2 : ((ra : Int) == 2) = false := by rw [hs]; rfl
  have q3 : ((ra : Int) == 3) = true := by rw [hs]; rfl
  have HR0 := LH (show rStep ⟨ra, rs, ro⟩ ⟨k, tx, n, a, b⟩ = if starT ⟨k, tx, n, a, b⟩ = true then some ⟨9, rs, ro⟩ else none from by unfold rStep; rw [if_neg (by simp only []; omega), if_neg (by simp only []; omega), if_neg (by simp only []; omega), if_neg (by simp only []; omega), if_pos (by simp only []; omega)]; rfl)
  clear hs hst m14 m0 m1 m2
  go_wp2_with fail
  have HB4 := LH (HB3.out.setCell (p := ⟨w.heap.size, 0, none⟩) (Nat.le_refl _) (.int .i64 9))
  have HR4 := LH (HBR.out.set_ 0 (.int .i64 9)); have HZ4 := LH (HBZ.out.far (p := ⟨w.heap.size, 0, none⟩) (by show w.heap.size + 1 + 1 ≠ w.heap.size; omega) (.int .i64 9))
  have HT4 := LH (HBT.out.far (p := ⟨w.heap.size, 0, none⟩) (by show w.heap.size + 1 ≠ w.heap.size; omega) (.int .i64 9))
  clear r0 r1 r2 fr0 fr1 fr2 lr t0 t1 t2 t3 t4 lt z0 z1 z2 fz0 fz1 fz2 lz
  generalize w3.setCell ⟨w.heap.size, 0, none⟩ (.int .i64 9) = w4 at *
  have HLR4 := LH HR4.out.lt; have HLZ4 := LH HZ4.out.lt; have HLT4 := LH HT4.out.lt
  have HS := LH (fun (W : World) (hW : Below w4.heap.size w4 W) => (show (W.cell? ⟨w.heap.size, 0, none⟩ = some (.int .i64 9) ∧ W.cell? ⟨w.heap.size, 1, none⟩ = some (.bool rs) ∧ W.cell? ⟨w.heap.size, 2, none⟩ = some (.slice A ro.length cap)) ∧ (W.cell? ⟨w.heap.size + 1, 0, none⟩ = some (.int .i64 k) ∧ W.cell? ⟨w.heap.size + 1, 1, none⟩ = some (.string (str tx)) ∧ W.cell? ⟨w.heap.size + 1, 2, none⟩ = some (.int .i64 n) ∧ W.cell? ⟨w.heap.size + 1, 3, none⟩ = some (.int .i64 a) ∧ W.cell? ⟨w.heap.size + 1, 4, none⟩ = some (.int .i64 b)) from
   ⟨⟨(hW.cell (p := ⟨w.heap.size, 0, none⟩) HLR4.out).trans (HR4.out.cell 0), (hW.cell (p := ⟨w.heap.size, 1, none⟩) HLR4.out).trans (HR4.out.cell 1), (hW.cell (p := ⟨w.heap.size, 2, none⟩) HLR4.out).trans (HR4.out.cell 2)⟩,
    ⟨(hW.cell (p := ⟨w.heap.size + 1, 0, none⟩) HLT4.out).trans (HT4.out.cell 0), (hW.cell (p := ⟨w.heap.size + 1, 1, none⟩) HLT4.out).trans (HT4.out.cell 1), (hW.cell (p := ⟨w.heap.size + 1, 2, none⟩) HLT4.out).trans (HT4.out.cell 2), (hW.cell (p := ⟨w.heap.size + 1, 3, none⟩) HLT4.out).trans (HT4.out.cell 3), (hW.cell (p := ⟨w.heap.size + 1, 4, none⟩) HLT4.out).trans (HT4.out.cell 4)⟩⟩))
  refine ph_region (fun W => (W.cell? ⟨w.heap.size, 0, none⟩ = some (.int .i64 9) ∧ W.cell? ⟨w.heap.size, 1, none⟩ = some (.bool rs) ∧ W.cell? ⟨w.heap.size, 2, none⟩ = some (.slice A ro.length cap)) ∧ (W.cell? ⟨w.heap.size + 1, 0, none⟩ = some (.int .i64 k) ∧ W.cell? ⟨w.heap.size + 1, 1, none⟩ = some (.string (str tx)) ∧ W.cell? ⟨w.heap.size + 1, 2, none⟩ = some (.int .i64 n) ∧ W.cell? ⟨w.heap.size + 1, 3, none⟩ = some (.int .i64 a) ∧ W.cell? ⟨w.heap.size + 1, 4, none⟩ = some (.int .i64 b))) 3 (by kernel_rfl) ?_
  have hS0 := HS.out w4.drew (Below.refl _ _).drew
  refine phAny_take (i := 0) (v := .agg #[.int .i64 9, .bool rs, .slice A ro.length cap]) [] rfl (by kernel_rfl) (fun _ _ _ h => h) (Or.inl ⟨by rfl, fun W1 hS1 => by obtain ⟨⟨s0, s1, s2⟩, s3, s4, s5, s6, s7⟩ := hS1; clear hS0; go_simp⟩) hS0 ?_
  simp only [Act.put, List.setIfInBounds_toArray, List.set_cons_zero, List.set_cons_succ]
  refine phAny_take (i := 1) (v := .agg #[.int .i64 k, .string (str tx), .int .i64 n, .int .i64 a, .int .i64 b]) [2] rfl (by kernel_rfl) (fun _ _ _ h => h) (Or.inl ⟨by rfl, fun W1 hS1 => by obtain ⟨⟨s0, s1, s2⟩, s3, s4, s5, s6, s7⟩ := hS1; clear hS0; go_simp⟩) hS0 ?_
  simp only [Act.put, List.setIfInBounds_toArray, List.set_cons_zero, List.set_cons_succ]
  clear hS0
  refine phAny_ready (rs := [2]) (by kernel_rfl) (by simp) ?_
  refine phAll.cons rfl (fun K hK => ?_) phAll.nil
  go_simp
  refine (rstar_any ⟨k, tx, n, a, b⟩ w4.drew).mono ?_
  rintro e w5 ⟨rfl, hb5⟩
  have HB5 := LH ((Below.refl w4.heap.size w4).drew.trans hb5)
  refine hK.out _ _ (fun _ => HS.out _ HB5.out) ?_
  clear hK K hb5
  try simp only [Act.put, List.setIfInBounds_toArray, List.set_cons_zero, List.set_cons_succ]
  have hz5 := HZ4.out.below HB5.out HLZ4.out
  have z0 := hz5.cell 0; have z1 := hz5.cell 1; have z2 := hz5.cell 2; have fz0 := hz5.frozen 0; have fz1 := hz5.frozen 1; have fz2 := hz5.frozen 2; have lz := hz5.lt
  simp only [List.getElem?_toArray, List.getElem?_cons_zero, List.getElem?_cons_succ] at z0 z1 z2
  clear hz5
  have HBF := LH (store3 (z := w.heap.size + 1 + 1) (u0 := .int .i64 9) (u1 := .bool rs) (u2 := .slice A ro.length cap) (HB4.out.trans (HB5.out.mono HB4.out.size)) (by omega))
  refine phAny_ready (rs := [3]) (by kernel_rfl) (by simp) ?_
  refine phAll.cons rfl (fun K hK => ?_) phAll.nil
  go_simp
  refine hK.out _ _ (fun h => nomatch (show true = false from h)) ?_
  clear hK K
  try simp only [Act.put, List.setIfInBounds_toArray, List.set_cons_zero, List.set_cons_succ]
  refine phAny_ready (rs := [4]) (by kernel_rfl) (by simp) ?_
  refine phAll.cons rfl (fun K hK => ?_) phAll.nil
  go_simp
  refine hK.out _ _ (fun h => nomatch (show true = false from h)) ?_
  clear hK K
  try simp only [Act.put, List.setIfInBounds_toArray, List.set_cons_zero, List.set_cons_succ]
  refine phAny_done (by kernel_rfl) ?_ _
  go_wp2
  cases hss : starT ⟨k, tx, n, a, b⟩ with
  | true =>
   refine bodyPost_ret (v := .tuple #[.agg #[.int .i64 9, .bool rs, .slice A ro.length cap], .bool true]) ?_ rfl ?_
   ·simp [results, Tryd.results49, go_sem, fz0, fz1, fz2, lz, z0, z1, z2, hss]
   ·exact row_end (a := 9) HV.out HBW.out HBF.out (HR0.out.trans (if_pos hss))
  | false =>
   refine bodyPost_ret (v := .tuple #[.agg #[.int .i64 9, .bool rs, .slice A ro.length cap], .bool false]) ?_ rfl ?_
   ·simp [results, Tryd.results49, go_sem, fz0, fz1, fz2, lz, z0, z1, z2, hss]
   ·exact RwRet.bad HBF.out (HR0.out.trans (if_neg (by rw [hss]; decide))) rfl
 have m3 := hs; clear hs
 by_cases hs : ra = 10
 ·skip
  have q14 : ((ra : Int) == 14) = false := by rw [hs]; rfl
  have q0 : ((ra : Int) == 0) = false := by rw [hs]; rfl
  have q1 : ((ra : Int) == 1) = false := by rw [hs]; rfl
  have q2 : ((ra : Int) == 2) = false := by rw [hs]; rfl
  have q3 : ((ra : Int) == 3) = false := by rw [hs]; rfl
  have q10 : ((ra : Int) == 10) = true := by rw [hs]; rfl
  have HST := LH (show 10 ≤ ra ∧ ra ≤ 13 from by omega)
  have HR := LH (show rStep ⟨ra, rs, ro⟩ ⟨k, tx, n, a, b⟩ = rSpan ⟨ra, rs, ro⟩ ⟨k, tx, n, a, b⟩ from by unfold rStep; rw [if_neg (by simp only []; omega), if_neg (by simp only []; omega), if_neg (by simp only []; omega), if_neg (by simp only []; omega), if_neg (by simp only []; omega), if_pos (by simp only []; omega)])
  clear hs hst m14 m0 m1 m2 m3
  go_wp2_with fail
  refine (rspan_any _ ⟨ra, rs, ro⟩ ⟨k, tx, n, a, b⟩ w3 B _ ⟨Nat.le_trans HBW.out HB3.out.size, rfl, HV.out.belowW HBW.out HB3.out⟩ HST.out.1 HST.out.2).mono ?_
  rintro e w5 ⟨hb5, x2, rfl, hX, hx2⟩
  have HX := LH hX
  obtain ⟨a2, s2, A2, n2, c2, rfl⟩ := hX
  have HZ5 := LH (HBZ.out.belowW hb5)
  have HF := LH (RwRet.fwd (B := B) (z := w.heap.size + 1 + 1) (u0 := .int .i64 a2) (u1 := .bool s2) (u2 := .slice A2 n2 c2) HBW.out (by omega) HBZ.out.lt HB3.out hb5 HX.out hx2)
  clear r0 r1 r2 fr0 fr1 fr2 t0 t1 t2 t3 t4 z0 z1 z2 fz0 fz1 fz2 lz
  have fz0 := HZ5.out.frozen 0; have fz1 := HZ5.out.frozen 1; have fz2 := HZ5.out.frozen 2; have lz := HZ5.out.lt
  have z0 := HZ5.out.cell 0; have z1 := HZ5.out.cell 1; have z2 := HZ5.out.cell 2
  simp only [List.getElem?_toArray, List.getElem?_cons_zero, List.getElem?_cons_succ] at z0 z1 z2
  clear hb5 hx2
  generalize (rSpan ⟨ra, rs, ro⟩ ⟨k, tx, n, a, b⟩) = rr at *
  obtain ⟨bb, hbb⟩ : ∃ bb, bb = rr.isSome := ⟨_, rfl⟩
  rw [← hbb] at HF ⊢
  have HBB := LH hbb
  clear hbb
  go_wp2
  refine bodyPost_ret (v := .tuple #[.agg #[.int .i64 a2, .bool s2, .slice A2 n2 c2], .bool bb]) ?_ rfl ?_
  ·simp [results, Tryd.results49, go_sem, fz0, fz1, fz2, lz, z0, z1, z2]
  ·rw [HR.out]; exact HF.out
 have m10 := hs; clear hs
 by_cases hs : ra = 11
 ·skip
  have q14 : ((ra : Int) == 14) = false := by rw [hs]; rfl
  have q0 : ((ra : Int) == 0) = false := by rw [hs]; rfl
  have q1 : ((ra : Int) == 1) = false := by rw [hs]; rfl
  have q2 : ((ra : Int) == 2) = false := by rw [hs]; rfl
  have q3 : ((ra : Int) == 3) = false := by rw [hs]; rfl
  have q10 : ((ra : Int) == 10) = false := by rw [hs]; rfl
  have q11 : ((ra : Int) == 11) = true := by rw [hs]; rfl
  have HST := LH (show 10 ≤ ra ∧ ra ≤ 13 from by omega)
  have HR := LH (show rStep ⟨ra, rs, ro⟩ ⟨k, tx, n, a, b⟩ = rSpan ⟨ra, rs, ro⟩ ⟨k, tx, n, a, b⟩ from by unfold rStep; rw [if_neg (by simp only []; omega), if_neg (by simp only []; omega), if_neg (by simp only []; omega), if_neg (by simp only []; omega), if_neg (by simp only []; omega), if_pos (by simp only []; omega)])
  clear hs hst m14 m0 m1 m2 m3 m10
  go_wp2_with fail
  refine (rspan_any _ ⟨ra, rs, ro⟩ ⟨k, tx, n, a, b⟩ w3 B _ ⟨Nat.le_trans HBW.out HB3.out.size, rfl, HV.out.belowW HBW.out HB3.out⟩ HST.out.1 HST.out.2).mono ?_
  rintro e w5 ⟨hb5, x2, rfl, hX, hx2⟩
  have HX := LH hX
  obtain ⟨a2, s2, A2, n2, c2, rfl⟩ := hX
  have HZ5 := LH (HBZ.out.belowW hb5)
  have HF := LH (RwRet.fwd (B := B) (z := w.heap.size + 1 + 1) (u0 := .int .i64 a2) (u1 := .bool s2) (u2 := .slice A2 n2 c2) HBW.out (by omega) HBZ.out.lt HB3.out hb5 HX.out hx2)
  clear r0 r1 r2 fr0 fr1 fr2 t0 t1 t2 t3 t4 z0 z1 z2 fz0 fz1 fz2 lz
  have fz0 := HZ5.out.frozen 0; have fz1 := HZ5.out.frozen 1; have fz2 := HZ5.out.frozen 2; have lz := HZ5.out.lt
  have z0 := HZ5.out.cell 0; have z1 := HZ5.out.cell 1; have z2 := HZ5.out.cell 2
  simp only [List.getElem?_toArray, List.getElem?_cons_zero, List.getElem?_cons_succ] at z0 z1 z2
  clear hb5 hx2
  generalize (rSpan ⟨ra, rs, ro⟩ ⟨k, tx, n, a, b⟩) = rr at *
  obtain ⟨bb, hbb⟩ : ∃ bb, bb = rr.isSome := ⟨_, rfl⟩
  rw [← hbb] at HF ⊢
  have HBB := LH hbb
  clear hbb
  go_wp2
  refine bodyPost_ret (v := .tuple #[.agg #[.int .i64 a2, .bool s2, .slice A2 n2 c2], .bool bb]) ?_ rfl ?_
  ·simp [results, Tryd.results49, go_sem, fz0, fz1, fz2, lz, z0, z1, z2]
  ·rw [HR.out]; exact HF.out
 have m11 := hs; clear hs
 by_cases hs : ra = 12
 ·skip
  have q14 : ((ra : Int) == 14) = false := by rw [hs]; rfl
  have q0 : ((ra : Int) == 0) = false := by rw [hs]; rfl
  have q1 : ((ra : Int) == 1) = false := by rw [hs]; rfl
  have q2 : ((ra : Int) == 2) = false := by rw [hs]; rfl
  have q3 : ((ra : Int) == 3) = false := by rw [hs]; rfl
  have q10 : ((ra : Int) == 10) = false := by rw [hs]; rfl
  have q11 : ((ra : Int) == 11) = false := by rw [hs]; rfl
  have q12 : ((ra : Int) == 12) = true := by rw [hs]; rfl
  have HST := LH (show 10 ≤ ra ∧ ra ≤ 13 from by omega)
  have HR := LH (show rStep ⟨ra, rs, ro⟩ ⟨k, tx, n, a, b⟩ = rSpan ⟨ra, rs, ro⟩ ⟨k, tx, n, a, b⟩ from by unfold rStep; rw [if_neg (by simp only []; omega), if_neg (by simp only []; omega), if_neg (by simp only []; omega), if_neg (by simp only []; omega), if_neg (by simp only []; omega), if_pos (by simp only []; omega)])
  clear hs hst m14 m0 m1 m2 m3 m10 m11
  go_wp2_with fail
  refine (rspan_any _ ⟨ra, rs, ro⟩ ⟨k, tx, n, a, b⟩ w3 B _ ⟨Nat.le_trans HBW.out HB3.out.size, rfl, HV.out.belowW HBW.out HB3.out⟩ HST.out.1 HST.out.2).mono ?_
  rintro e w5 ⟨hb5, x2, rfl, hX, hx2⟩
  have HX := LH hX
  obtain ⟨a2, s2, A2, n2, c2, rfl⟩ := hX
  have HZ5 := LH (HBZ.out.belowW hb5)
  have HF := LH (RwRet.fwd (B := B) (z := w.heap.size + 1 + 1) (u0 := .int .i64 a2) (u1 := .bool s2) (u2 := .slice A2 n2 c2) HBW.out (by omega) HBZ.out.lt HB3.out hb5 HX.out hx2)
  clear r0 r1 r2 fr0 fr1 fr2 t0 t1 t2 t3 t4 z0 z1 z2 fz0 fz1 fz2 lz
  have fz0 := HZ5.out.frozen 0; have fz1 := HZ5.out.frozen 1; have fz2 := HZ5.out.frozen 2; have lz := HZ5.out.lt
  have z0 := HZ5.out.cell 0; have z1 := HZ5.out.cell 1; have z2 := HZ5.out.cell 2
  simp only [List.getElem?_toArray, List.getElem?_cons_zero, List.getElem?_cons_succ] at z0 z1 z2
  clear hb5 hx2
  generalize (rSpan ⟨ra, rs, ro⟩ ⟨k, tx, n, a, b⟩) = rr at *
  obtain ⟨bb, hbb⟩ : ∃ bb, bb = rr.isSome := ⟨_, rfl⟩
  rw [← hbb] at HF ⊢
  have HBB := LH hbb
  clear hbb
  go_wp2
  refine bodyPost_ret (v := .tuple #[.agg #[.int .i64 a2, .bool s2, .slice A2 n2 c2], .bool bb]) ?_ rfl ?_
  ·simp [results, Tryd.results49, go_sem, fz0, fz1, fz2, lz, z0, z1, z2]
  ·rw [HR.out]; exact HF.out
 have m12 := hs; clear hs
 by_cases hs : ra = 13
 ·skip
  have q14 : ((ra : Int) == 14) = false := by rw [hs]; rfl
  have q0 : ((ra : Int) == 0) = false := by rw [hs]; rfl
  have q1 : ((ra : Int) == 1) = false := by rw [hs]; rfl
  have q2 : ((ra : Int) == 2) = false := by rw [hs]; rfl
  have q3 : ((ra : Int) == 3) = false := by rw [hs]; rfl
  have q10 : ((ra : Int) == 10) = false := by rw [hs]; rfl
  have q11 : ((ra : Int) == 11) = false := by rw [hs]; rfl
  have q12 : ((ra : Int) == 12) = false := by rw [hs]; rfl
  have q13 : ((ra : Int) == 13) = true := by rw [hs]; rfl
  have HST := LH (show 10 ≤ ra ∧ ra ≤ 13 from by omega)
  have HR := LH (show rStep ⟨ra, rs, ro⟩ ⟨k, tx, n, a, b⟩ = rSpan ⟨ra, rs, ro⟩ ⟨k, tx, n, a, b⟩ from by unfold rStep; rw [if_neg (by simp only []; omega), if_neg (by simp only []; omega), if_neg (by simp only []; omega), if_neg (by simp only []; omega), if_neg (by simp only []; omega), if_pos (by simp only []; omega)])
  clear hs hst m14 m0 m1 m2 m3 m10 m11 m12
  go_wp2_with fail
  refine (rspan_any _ ⟨ra, rs, ro⟩ ⟨k, tx, n, a, b⟩ w3 B _ ⟨Nat.le_trans HBW.out HB3.out.size, rfl, HV.out.belowW HBW.out HB3.out⟩ HST.out.1 HST.out.2).mono ?_
  rintro e w5 ⟨hb5, x2, rfl, hX, hx2⟩
  have HX := LH hX
  obtain ⟨a2, s2, A2, n2, c2, rfl⟩ := hX
  have HZ5 := LH (HBZ.out.belowW hb5)
  have HF := LH (RwRet.fwd (B := B) (z := w.heap.size + 1 + 1) (u0 := .int .i64 a2) (u1 := .bool s2) (u2 := .slice A2 n2 c2) HBW.out (by omega) HBZ.out.lt HB3.out hb5 HX.out hx2)
  clear r0 r1 r2 fr0 fr1 fr2 t0 t1 t2 t3 t4 z0 z1 z2 fz0 fz1 fz2 lz
  have fz0 := HZ5.out.frozen 0; have fz1 := HZ5.out.frozen 1; have fz2 := HZ5.out.frozen 2; have lz := HZ5.out.lt
  have z0 := HZ5.out.cell 0; have z1 := HZ5.out.cell 1; have z2 := HZ5.out.cell 2
  simp only [List.getElem?_toArray, List.getElem?_cons_zero, List.getElem?_cons_succ] at z0 z1 z2
  clear hb5 hx2
  generalize (rSpan ⟨ra, rs, ro⟩ ⟨k, tx, n, a, b⟩) = rr at *
  obtain ⟨bb, hbb⟩ : ∃ bb, bb = rr.isSome := ⟨_, rfl⟩
  rw [← hbb] at HF ⊢
  have HBB := LH hbb
  clear hbb
  go_wp2
  refine bodyPost_ret (v := .tuple #[.agg #[.int .i64 a2, .bool s2, .slice A2 n2 c2], .bool bb]) ?_ rfl ?_
  ·simp [results, Tryd.results49, go_sem, fz0, fz1, fz2, lz, z0, z1, z2]
  ·rw [HR.out]; exact HF.out
 have m13 := hs; clear hs
 by_cases hs : ra = 4
 ·skip
  have q14 : ((ra : Int) == 14) = false := by rw [hs]; rfl
  have q0 : ((ra : Int) == 0) = false := by rw [hs]; rfl
  have q1 : ((ra : Int) == 1) = false := by rw [hs]; rfl
  have q2 : ((ra : Int) == 2) = false := by rw [hs]; rfl
  have q3 : ((ra : Int) == 3) = false := by rw [hs]; rfl
  have q10 : ((ra : Int) == 10) = false := by rw [hs]; rfl
  have q11 : ((ra : Int) == 11) = false := by rw [hs]; rfl
  have q12 : ((ra : Int) == 12) = false := by rw [hs]; rfl
  have q13 : ((ra : Int) == 13) = false := by rw [hs]; rfl
  have q4 : ((ra : Int) == 4) = true := by rw [hs]; rfl
  by_cases h14 : k = 14
  ·have e14 : (k == 14) = true := by simpa using h14
   have HR := LH (show rStep ⟨ra, rs, ro⟩ ⟨k, tx, n, a, b⟩ = some ⟨2, rs, ro⟩ from by unfold rStep; rw [if_neg (by simp only []; omega), if_neg (by simp only []; omega), if_neg (by simp only []; omega), if_neg (by simp only []; omega), if_neg (by simp only []; omega), if_neg (by simp only []; omega), if_pos (by simp only []; omega), if_pos (by simp only []; omega)]; rfl)
   clear hs hst h14 m14 m0 m1 m2 m3 m10 m11 m12 m13
   go_wp2
   refine bodyPost_ret (v := .tuple #[.agg #[.int .i64 2, .bool rs, .slice A ro.length cap], .bool true]) ?_ rfl ?_
   ·simp [results, Tryd.results49, go_sem, fz0, fz1, fz2, lz, z0, z1, z2]
   ·exact row_end (a := 2) HV.out HBW.out (store3 (HB3.out.setCell (p := ⟨w.heap.size, 0, none⟩) (Nat.le_refl _) _) (by omega)) HR.out
  have e14 : (k == 14) = false := by simpa using h14
  cases ed with
  | true =>
   have HR := LH (show rStep ⟨ra, rs, ro⟩ ⟨k, tx, n, a, b⟩ = some ⟨9, rs, ro⟩ from by unfold rStep; rw [if_neg (by simp only []; omega), if_neg (by simp only []; omega), if_neg (by simp only []; omega), if_neg (by simp only []; omega), if_neg (by simp only []; omega), if_neg (by simp only []; omega), if_pos (by simp only []; omega), if_neg (by simp only []; omega), if_pos (by rw [← HED.out])]; rfl)
   clear hs hst h14 m14 m0 m1 m2 m3 m10 m11 m12 m13
   go_wp2
   refine bodyPost_ret (v := .tuple #[.agg #[.int .i64 9, .bool rs, .slice A ro.length cap], .bool true]) ?_ rfl ?_
   ·simp [results, Tryd.results49, go_sem, fz0, fz1, fz2, lz, z0, z1, z2]
   ·exact row_end (a := 9) HV.out HBW.out (store3 (HB3.out.setCell (p := ⟨w.heap.size, 0, none⟩) (Nat.le_refl _) _) (by omega)) HR.out
  | false =>
   have HR := LH (show rStep ⟨ra, rs, ro⟩ ⟨k, tx, n, a, b⟩ = rBehind ⟨ra, rs, ro⟩ ⟨k, tx, n, a, b⟩ from by unfold rStep; rw [if_neg (by simp only []; omega), if_neg (by simp only []; omega), if_neg (by simp only []; omega), if_neg (by simp only []; omega), if_neg (by simp only []; omega), if_neg (by simp only []; omega), if_pos (by simp only []; omega), if_neg (by simp only []; omega), if_neg (by rw [← HED.out]; decide)])
   clear hs hst h14 m14 m0 m1 m2 m3 m10 m11 m12 m13
   go_wp2_with fail
   refine (rbehind_any _ ⟨ra, rs, ro⟩ ⟨k, tx, n, a, b⟩ w3 B _ ⟨Nat.le_trans HBW.out HB3.out.size, rfl, HV.out.belowW HBW.out HB3.out⟩ HL.out).mono ?_
   rintro e w5 ⟨hb5, x2, rfl, hX, hx2⟩
   have HX := LH hX
   obtain ⟨a2, s2, A2, n2, c2, rfl⟩ := hX
   have HZ5 := LH (HBZ.out.belowW hb5)
   have HF := LH (RwRet.fwd (B := B) (z := w.heap.size + 1 + 1) (u0 := .int .i64 a2) (u1 := .bool s2) (u2 := .slice A2 n2 c2) HBW.out (by omega) HBZ.out.lt HB3.out hb5 HX.out hx2)
   clear r0 r1 r2 fr0 fr1 fr2 t0 t1 t2 t3 t4 z0 z1 z2 fz0 fz1 fz2 lz
   have fz0 := HZ5.out.frozen 0; have fz1 := HZ5.out.frozen 1; have fz2 := HZ5.out.frozen 2; have lz := HZ5.out.lt
   have z0 := HZ5.out.cell 0; have z1 := HZ5.out.cell 1; have z2 := HZ5.out.cell 2
   simp only [List.getElem?_toArray, List.getElem?_cons_zero, List.getElem?_cons_succ] at z0 z1 z2
   clear hb5 hx2
   generalize (rBehind ⟨ra, rs, ro⟩ ⟨k, tx, n, a, b⟩) = rr at *
   obtain ⟨bb, hbb⟩ : ∃ bb, bb = rr.isSome := ⟨_, rfl⟩
   rw [← hbb] at HF ⊢
   have HBB := LH hbb
   clear hbb
   go_wp2
   refine bodyPost_ret (v := .tuple #[.agg #[.int .i64 a2, .bool s2, .slice A2 n2 c2], .bool bb]) ?_ rfl ?_
   ·simp [results, Tryd.results49, go_sem, fz0, fz1, fz2, lz, z0, z1, z2]
   ·rw [HR.out]; exact HF.out
 have m4 := hs; clear hs
 by_cases hs : ra = 6
 ·skip
  have q14 : ((ra : Int) == 14) = false := by rw [hs]; rfl
  have q0 : ((ra : Int) == 0) = false := by rw [hs]; rfl
  have q1 : ((ra : Int) == 1) = false := by rw [hs]; rfl
  have q2 : ((ra : Int) == 2) = false := by rw [hs]; rfl
  have q3 : ((ra : Int) == 3) = false := by rw [hs]; rfl
  have q10 : ((ra : Int) == 10) = false := by rw [hs]; rfl
  have q11 : ((ra : Int) == 11) = false := by rw [hs]; rfl
  have q12 : ((ra : Int) == 12) = false := by rw [hs]; rfl
  have q13 : ((ra : Int) == 13) = false := by rw [hs]; rfl
  have q4 : ((ra : Int) == 4) = false := by rw [hs]; rfl
  have q6 : ((ra : Int) == 6) = true := by rw [hs]; rfl
  by_cases h14 : k = 14
  ·have e14 : (k == 14) = true := by simpa using h14
   have HR := LH (show rStep ⟨ra, rs, ro⟩ ⟨k, tx, n, a, b⟩ = some ⟨3, rs, ro⟩ from by unfold rStep; rw [if_neg (by simp only []; omega), if_neg (by simp only []; omega), if_neg (by simp only []; omega), if_neg (by simp only []; omega), if_neg (by simp only []; omega), if_neg (by simp only []; omega), if_neg (by simp only []; omega), if_pos (by simp only []; omega), if_pos (by simp only []; omega)]; rfl)
   clear hs hst h14 m14 m0 m1 m2 m3 m10 m11 m12 m13 m4
   go_wp2
   refine bodyPost_ret (v := .tuple #[.agg #[.int .i64 3, .bool rs, .slice A ro.length cap], .bool true]) ?_ rfl ?_
   ·simp [results, Tryd.results49, go_sem, fz0, fz1, fz2, lz, z0, z1, z2]
   ·exact row_end (a := 3) HV.out HBW.out (store3 (HB3.out.setCell (p := ⟨w.heap.size, 0, none⟩) (Nat.le_refl _) _) (by omega)) HR.out
  have e14 : (k == 14) = false := by simpa using h14
  have HR := LH (show rStep ⟨ra, rs, ro⟩ ⟨k, tx, n, a, b⟩ = rBehind ⟨ra, rs, ro⟩ ⟨k, tx, n, a, b⟩ from by unfold rStep; rw [if_neg (by simp only []; omega), if_neg (by simp only []; omega), if_neg (by simp only []; omega), if_neg (by simp only []; omega), if_neg (by simp only []; omega), if_neg (by simp only []; omega), if_neg (by simp only []; omega), if_pos (by simp only []; omega), if_neg (by simp only []; omega)])
  clear hs hst h14 m14 m0 m1 m2 m3 m10 m11 m12 m13 m4
  go_wp2_with fail
  refine (rbehind_any _ ⟨ra, rs, ro⟩ ⟨k, tx, n, a, b⟩ w3 B _ ⟨Nat.le_trans HBW.out HB3.out.size, rfl, HV.out.belowW HBW.out HB3.out⟩ HL.out).mono ?_
  rintro e w5 ⟨hb5, x2, rfl, hX, hx2⟩
  have HX := LH hX
  obtain ⟨a2, s2, A2, n2, c2, rfl⟩ := hX
  have HZ5 := LH (HBZ.out.belowW hb5)
  have HF := LH (RwRet.fwd (B := B) (z := w.heap.size + 1 + 1) (u0 := .int .i64 a2) (u1 := .bool s2) (u2 := .slice A2 n2 c2) HBW.out (by omega) HBZ.out.lt HB3.out hb5 HX.out hx2)
  clear r0 r1 r2 fr0 fr1 fr2 t0 t1 t2 t3 t4 z0 z1 z2 fz0 fz1 fz2 lz
  have fz0 := HZ5.out.frozen 0; have fz1 := HZ5.out.frozen 1; have fz2 := HZ5.out.frozen 2; have lz := HZ5.out.lt
  have z0 := HZ5.out.cell 0; have z1 := HZ5.out.cell 1; have z2 := HZ5.out.cell 2
  simp only [List.getElem?_toArray, List.getElem?_cons_zero, List.getElem?_cons_succ] at z0 z1 z2
  clear hb5 hx2
  generalize (rBehind ⟨ra, rs, ro⟩ ⟨k, tx, n, a, b⟩) = rr at *
  obtain ⟨bb, hbb⟩ : ∃ bb, bb = rr.isSome := ⟨_, rfl⟩
  rw [← hbb] at HF ⊢
  have HBB := LH hbb
  clear hbb
  go_wp2
  refine bodyPost_ret (v := .tuple #[.agg #[.int .i64 a2, .bool s2, .slice A2 n2 c2], .bool bb]) ?_ rfl ?_
  ·simp [results, Tryd.results49, go_sem, fz0, fz1, fz2, lz, z0, z1, z2]
  ·rw [HR.out]; exact HF.out
 have m6 := hs; clear hs
 by_cases hs : ra = 5
 ·skip
  have q14 : ((ra : Int) == 14) = false := by rw [hs]; rfl
  have q0 : ((ra : Int) == 0) = false := by rw [hs]; rfl
  have q1 : ((ra : Int) == 1) = false := by rw [hs]; rfl
  have q2 : ((ra : Int) == 2) = false := by rw [hs]; rfl
  have q3 : ((ra : Int) == 3) = false := by rw [hs]; rfl
  have q10 : ((ra : Int) == 10) = false := by rw [hs]; rfl
  have q11 : ((ra : Int) == 11) = false := by rw [hs]; rfl
  have q12 : ((ra : Int) == 12) = false := by rw [hs]; rfl
  have q13 : ((ra : Int) == 13) = false := by rw [hs]; rfl
  have q4 : ((ra : Int) == 4) = false := by rw [hs]; rfl
  have q6 : ((ra : Int) == 6) = false := by rw [hs]; rfl
  have q5 : ((ra : Int) == 5) = true := by rw [hs]; rfl
  cases ed with
  | true =>
   have HR := LH (show rStep ⟨ra, rs, ro⟩ ⟨k, tx, n, a, b⟩ = some ⟨9, rs, ro⟩ from by unfold rStep; rw [if_neg (by simp only []; omega), if_neg (by simp only []; omega), if_neg (by simp only []; omega), if_neg (by simp only []; omega), if_neg (by simp only []; omega), if_neg (by simp only []; omega), if_neg (by simp only []; omega), if_neg (by simp only []; omega), if_pos (by simp only []; omega), if_pos (by rw [← HED.out])]; rfl)
   clear hs hst m14 m0 m1 m2 m3 m10 m11 m12 m13 m4 m6
   go_wp2
   refine bodyPost_ret (v := .tuple #[.agg #[.int .i64 9, .bool rs, .slice A ro.length cap], .bool true]) ?_ rfl ?_
   ·simp [results, Tryd.results49, go_sem, fz0, fz1, fz2, lz, z0, z1, z2]
   ·exact row_end (a := 9) HV.out HBW.out (store3 (HB3.out.setCell (p := ⟨w.heap.size, 0, none⟩) (Nat.le_refl _) _) (by omega)) HR.out
  | false =>
   have HR := LH (show rStep ⟨ra, rs, ro⟩ ⟨k, tx, n, a, b⟩ = rBehind ⟨ra, rs, ro⟩ ⟨k, tx, n, a, b⟩ from by unfold rStep; rw [if_neg (by simp only []; omega), if_neg (by simp only []; omega), if_neg (by simp only []; omega), if_neg (by simp only []; omega), if_neg (by simp only []; omega), if_neg (by simp only []; omega), if_neg (by simp only []; omega), if_neg (by simp only []; omega), if_pos (by simp only []; omega), if_neg (by rw [← HED.out]; decide)])
   clear hs hst m14 m0 m1 m2 m3 m10 m11 m12 m13 m4 m6
   go_wp2_with fail
   refine (rbehind_any _ ⟨ra, rs, ro⟩ ⟨k, tx, n, a, b⟩ w3 B _ ⟨Nat.le_trans HBW.out HB3.out.size, rfl, HV.out.belowW HBW.out HB3.out⟩ HL.out).mono ?_
   rintro e w5 ⟨hb5, x2, rfl, hX, hx2⟩
   have HX := LH hX
   obtain ⟨a2, s2, A2, n2, c2, rfl⟩ := hX
   have HZ5 := LH (HBZ.out.belowW hb5)
   have HF := LH (RwRet.fwd (B := B) (z := w.heap.size + 1 + 1) (u0 := .int .i64 a2) (u1 := .bool s2) (u2 := .slice A2 n2 c2) HBW.out (by omega) HBZ.out.lt HB3.out hb5 HX.out hx2)
   clear r0 r1 r2 fr0 fr1 fr2 t0 t1 t2 t3 t4 z0 z1 z2 fz0 fz1 fz2 lz
   have fz0 := HZ5.out.frozen 0; have fz1 := HZ5.out.frozen 1; have fz2 := HZ5.out.frozen 2; have lz := HZ5.out.lt
   have z0 := HZ5.out.cell 0; have z1 := HZ5.out.cell 1; have z2 := HZ5.out.cell 2
   simp only [List.getElem?_toArray, List.getElem?_cons_zero, List.getElem?_cons_succ] at z0 z1 z2
   clear hb5 hx2
   generalize (rBehind ⟨ra, rs, ro⟩ ⟨k, tx, n, a, b⟩) = rr at *
   obtain ⟨bb, hbb⟩ : ∃ bb, bb = rr.isSome := ⟨_, rfl⟩
   rw [← hbb] at HF ⊢
   have HBB := LH hbb
   clear hbb
   go_wp2
   refine bodyPost_ret (v := .tuple #[.agg #[.int .i64 a2, .bool s2, .slice A2 n2 c2], .bool bb]) ?_ rfl ?_
   ·simp [results, Tryd.results49, go_sem, fz0, fz1, fz2, lz, z0, z1, z2]
   ·rw [HR.out]; exact HF.out
 have m5 := hs; clear hs
 by_cases hs : ra = 7
 ·skip
  have q14 : ((ra : Int) == 14) = false := by rw [hs]; rfl
  have q0 : ((ra : Int) == 0) = false := by rw [hs]; rfl
  have q1 : ((ra : Int) == 1) = false := by rw [hs]; rfl
  have q2 : ((ra : Int) == 2) = false := by rw [hs]; rfl
  have q3 : ((ra : Int) == 3) = false := by rw [hs]; rfl
  have q10 : ((ra : Int) == 10) = false := by rw [hs]; rfl
  have q11 : ((ra : Int) == 11) = false := by rw [hs]; rfl
  have q12 : ((ra : Int) == 12) = false := by rw [hs]; rfl
  have q13 : ((ra : Int) == 13) = false := by rw [hs]; rfl
  have q4 : ((ra : Int) == 4) = false := by rw [hs]; rfl
  have q6 : ((ra : Int) == 6) = false := by rw [hs]; rfl
  have q5 : ((ra : Int) == 5) = false := by rw [hs]; rfl
  have q7 : ((ra : Int) == 7) = true := by rw [hs]; rfl
  cases sl with
  | true =>
   have HR := LH (show rStep ⟨ra, rs, ro⟩ ⟨k, tx, n, a, b⟩ = some ⟨9, rs, ro⟩ from by unfold rStep; rw [if_neg (by simp only []; omega), if_neg (by simp only []; omega), if_neg (by simp only []; omega), if_neg (by simp only []; omega), if_neg (by simp only []; omega), if_neg (by simp only []; omega), if_neg (by simp only []; omega), if_neg (by simp only []; omega), if_neg (by simp only []; omega), if_pos (by simp only []; omega), if_pos (by rw [← HSL.out])]; rfl)
   clear hs hst m14 m0 m1 m2 m3 m10 m11 m12 m13 m4 m6 m5
   go_wp2
   refine bodyPost_ret (v := .tuple #[.agg #[.int .i64 9, .bool rs, .slice A ro.length cap], .bool true]) ?_ rfl ?_
   ·simp [results, Tryd.results49, go_sem, fz0, fz1, fz2, lz, z0, z1, z2]
   ·exact row_end (a := 9) HV.out HBW.out (store3 (HB3.out.setCell (p := ⟨w.heap.size, 0, none⟩) (Nat.le_refl _) _) (by omega)) HR.out
  | false =>
   have HR := LH (show rStep ⟨ra, rs, ro⟩ ⟨k, tx, n, a, b⟩ = rBehind ⟨ra, rs, ro⟩ ⟨k, tx, n, a, b⟩ from by unfold rStep; rw [if_neg (by simp only []; omega), if_neg (by simp only []; omega), if_neg (by simp only []; omega), if_neg (by simp only []; omega), if_neg (by simp only []; omega), if_neg (by simp only []; omega), if_neg (by simp only []; omega), if_neg (by simp only []; omega), if_neg (by simp only []; omega), if_pos (by simp only []; omega), if_neg (by rw [← HSL.out]; decide)])
   clear hs hst m14 m0 m1 m2 m3 m10 m11 m12 m13 m4 m6 m5
   go_wp2_with fail
   refine (rbehind_any _ ⟨ra, rs, ro⟩ ⟨k, tx, n, a, b⟩ w3 B _ ⟨Nat.le_trans HBW.out HB3.out.size, rfl, HV.out.belowW HBW.out HB3.out⟩ HL.out).mono ?_
   rintro e w5 ⟨hb5, x2, rfl, hX, hx2⟩
   have HX := LH hX
   obtain ⟨a2, s2, A2, n2, c2, rfl⟩ := hX
   have HZ5 := LH (HBZ.out.belowW hb5)
   have HF := LH (RwRet.fwd (B := B) (z := w.heap.size + 1 + 1) (u0 := .int .i64 a2) (u1 := .bool s2) (u2 := .slice A2 n2 c2) HBW.out (by omega) HBZ.out.lt HB3.out hb5 HX.out hx2)
   clear r0 r1 r2 fr0 fr1 fr2 t0 t1 t2 t3 t4 z0 z1 z2 fz0 fz1 fz2 lz
   have fz0 := HZ5.out.frozen 0; have fz1 := HZ5.out.frozen 1; have fz2 := HZ5.out.frozen 2; have lz := HZ5.out.lt
   have z0 := HZ5.out.cell 0; have z1 := HZ5.out.cell 1; have z2 := HZ5.out.cell 2
   simp only [List.getElem?_toArray, List.getElem?_cons_zero, List.getElem?_cons_succ] at z0 z1 z2
   clear hb5 hx2
   generalize (rBehind ⟨ra, rs, ro⟩ ⟨k, tx, n, a, b⟩) = rr at *
   obtain ⟨bb, hbb⟩ : ∃ bb, bb = rr.isSome := ⟨_, rfl⟩
   rw [← hbb] at HF ⊢
   have HBB := LH hbb
   clear hbb
   go_wp2
   refine bodyPost_ret (v := .tuple #[.agg #[.int .i64 a2, .bool s2, .slice A2 n2 c2], .bool bb]) ?_ rfl ?_
   ·simp [results, Tryd.results49, go_sem, fz0, fz1, fz2, lz, z0, z1, z2]
   ·rw [HR.out]; exact HF.out
 have m7 := hs; clear hs
 by_cases hs : ra = 8
 ·skip
  have q14 : ((ra : Int) == 14) = false := by rw [hs]; rfl
  have q0 : ((ra : Int) == 0) = false := by rw [hs]; rfl
  have q1 : ((ra : Int) == 1) = false := by rw [hs]; rfl
  have q2 : ((ra : Int) == 2) = false := by rw [hs]; rfl
  have q3 : ((ra : Int) == 3) = false := by rw [hs]; rfl
  have q10 : ((ra : Int) == 10) = false := by rw [hs]; rfl
  have q11 : ((ra : Int) == 11) = false := by rw [hs]; rfl
  have q12 : ((ra : Int) == 12) = false := by rw [hs]; rfl
  have q13 : ((ra : Int) == 13) = false := by rw [hs]; rfl
  have q4 : ((ra : Int) == 4) = false := by rw [hs]; rfl
  have q6 : ((ra : Int) == 6) = false := by rw [hs]; rfl
  have q5 : ((ra : Int) == 5) = false := by rw [hs]; rfl
  have q7 : ((ra : Int) == 7) = false := by rw [hs]; rfl
  have q8 : ((ra : Int) == 8) = true := by rw [hs]; rfl
  by_cases h21 : k = 21
  ·have e21 : (k == 21) = true := by simpa using h21
   have HR := LH (show rStep ⟨ra, rs, ro⟩ ⟨k, tx, n, a, b⟩ = some ⟨9, rs, ro⟩ from by unfold rStep; rw [if_neg (by simp only []; omega), if_neg (by simp only []; omega), if_neg (by simp only []; omega), if_neg (by simp only []; omega), if_neg (by simp only []; omega), if_neg (by simp only []; omega), if_neg (by simp only []; omega), if_neg (by simp only []; omega), if_neg (by simp only []; omega), if_neg (by simp only []; omega), if_pos (by simp only []; omega), if_pos (by simp only []; omega)]; rfl)
   clear hs hst h21 m14 m0 m1 m2 m3 m10 m11 m12 m13 m4 m6 m5 m7
   go_wp2
   refine bodyPost_ret (v := .tuple #[.agg #[.int .i64 9, .bool rs, .slice A ro.length cap], .bool true]) ?_ rfl ?_
   ·simp [results, Tryd.results49, go_sem, fz0, fz1, fz2, lz, z0, z1, z2]
   ·exact row_end (a := 9) HV.out HBW.out (store3 (HB3.out.setCell (p := ⟨w.heap.size, 0, none⟩) (Nat.le_refl _) _) (by omega)) HR.out
  have e21 : (k == 21) = false := by simpa using h21
  have HR := LH (show rStep ⟨ra, rs, ro⟩ ⟨k, tx, n, a, b⟩ = rBehind ⟨ra, rs, ro⟩ ⟨k, tx, n, a, b⟩ from by unfold rStep; rw [if_neg (by simp only []; omega), if_neg (by simp only []; omega), if_neg (by simp only []; omega), if_neg (by simp only []; omega), if_neg (by simp only []; omega), if_neg (by simp only []; omega), if_neg (by simp only []; omega), if_neg (by simp only []; omega), if_neg (by simp only []; omega), if_neg (by simp only []; omega), if_pos (by simp only []; omega), if_neg (by simp only []; omega)])
  clear hs hst h21 m14 m0 m1 m2 m3 m10 m11 m12 m13 m4 m6 m5 m7
  go_wp2_with fail
  refine (rbehind_any _ ⟨ra, rs, ro⟩ ⟨k, tx, n, a, b⟩ w3 B _ ⟨Nat.le_trans HBW.out HB3.out.size, rfl, HV.out.belowW HBW.out HB3.out⟩ HL.out).mono ?_
  rintro e w5 ⟨hb5, x2, rfl, hX, hx2⟩
  have HX := LH hX
  obtain ⟨a2, s2, A2, n2, c2, rfl⟩ := hX
  have HZ5 := LH (HBZ.out.belowW hb5)
  have HF := LH (RwRet.fwd (B := B) (z := w.heap.size + 1 + 1) (u0 := .int .i64 a2) (u1 := .bool s2) (u2 := .slice A2 n2 c2) HBW.out (by omega) HBZ.out.lt HB3.out hb5 HX.out hx2)
  clear r0 r1 r2 fr0 fr1 fr2 t0 t1 t2 t3 t4 z0 z1 z2 fz0 fz1 fz2 lz
  have fz0 := HZ5.out.frozen 0; have fz1 := HZ5.out.frozen 1; have fz2 := HZ5.out.frozen 2; have lz := HZ5.out.lt
  have z0 := HZ5.out.cell 0; have z1 := HZ5.out.cell 1; have z2 := HZ5.out.cell 2
  simp only [List.getElem?_toArray, List.getElem?_cons_zero, List.getElem?_cons_succ] at z0 z1 z2
  clear hb5 hx2
  generalize (rBehind ⟨ra, rs, ro⟩ ⟨k, tx, n, a, b⟩) = rr at *
  obtain ⟨bb, hbb⟩ : ∃ bb, bb = rr.isSome := ⟨_, rfl⟩
  rw [← hbb] at HF ⊢
  have HBB := LH hbb
  clear hbb
  go_wp2
  refine bodyPost_ret (v := .tuple #[.agg #[.int .i64 a2, .bool s2, .slice A2 n2 c2], .bool bb]) ?_ rfl ?_
  ·simp [results, Tryd.results49, go_sem, fz0, fz1, fz2, lz, z0, z1, z2]
  ·rw [HR.out]; exact HF.out
 have m8 := hs; clear hs
 have hs : ra = 9 := by omega
 have q14 : ((ra : Int) == 14) = false := by rw [hs]; rfl
 have q0 : ((ra : Int) == 0) = false := by rw [hs]; rfl
 have q1 : ((ra : Int) == 1) = false := by rw [hs]; rfl
 have q2 : ((ra : Int) == 2) = false := by rw [hs]; rfl
 have q3 : ((ra : Int) == 3) = false := by rw [hs]; rfl
 have q10 : ((ra : Int) == 10) = false := by rw [hs]; rfl
 have q11 : ((ra : Int) == 11) = false := by rw [hs]; rfl
 have q12 : ((ra : Int) == 12) = false := by rw [hs]; rfl
 have q13 : ((ra : Int) == 13) = false := by rw [hs]; rfl
 have q4 : ((ra : Int) == 4) = false := by rw [hs]; rfl
 have q6 : ((ra : Int) == 6) = false := by rw [hs]; rfl
 have q5 : ((ra : Int) == 5) = false := by rw [hs]; rfl
 have q7 : ((ra : Int) == 7) = false := by rw [hs]; rfl
 have q8 : ((ra : Int) == 8) = false := by rw [hs]; rfl
 have HR := LH (show rStep ⟨ra, rs, ro⟩ ⟨k, tx, n, a, b⟩ = rBehind ⟨ra, rs, ro⟩ ⟨k, tx, n, a, b⟩ from by unfold rStep; rw [if_neg (by simp only []; omega), if_neg (by simp only []; omega), if_neg (by simp only []; omega), if_neg (by simp only []; omega), if_neg (by simp only []; omega), if_neg (by simp only []; omega), if_neg (by simp only []; omega), if_neg (by simp only []; omega), if_neg (by simp only []; omega), if_neg (by simp only []; omega), if_neg (by simp only []; omega)])
 clear hs hst m14 m0 m1 m2 m3 m10 m11 m12 m13 m4 m6 m5 m7 m8
 go_wp2_with fail
 refine (rbehind_any _ ⟨ra, rs, ro⟩ ⟨k, tx, n, a, b⟩ w3 B _ ⟨Nat.le_trans HBW.out HB3.out.size, rfl, HV.out.belowW HBW.out HB3.out⟩ HL.out).mono ?_
 rintro e w5 ⟨hb5, x2, rfl, hX, hx2⟩
 have HX := LH hX
 obtain ⟨a2, s2, A2, n2, c2, rfl⟩ := hX
 have HZ5 := LH (HBZ.out.belowW hb5)
 have HF := LH (RwRet.fwd (B := B) (z := w.heap.size + 1 + 1) (u0 := .int .i64 a2) (u1 := .bool s2) (u2 := .slice A2 n2 c2) HBW.out (by omega) HBZ.out.lt HB3.out hb5 HX.out hx2)
 clear r0 r1 r2 fr0 fr1 fr2 t0 t1 t2 t3 t4 z0 z1 z2 fz0 fz1 fz2 lz
 have fz0 := HZ5.out.frozen 0; have fz1 := HZ5.out.frozen 1; have fz2 := HZ5.out.frozen 2; have lz := HZ5.out.lt
 have z0 := HZ5.out.cell 0; have z1 := HZ5.out.cell 1; have z2 := HZ5.out.cell 2
 simp only [List.getElem?_toArray, List.getElem?_cons_zero, List.getElem?_cons_succ] at z0 z1 z2
 clear hb5 hx2
 generalize (rBehind ⟨ra, rs, ro⟩ ⟨k, tx, n, a, b⟩) = rr at *
 obtain ⟨bb, hbb⟩ : ∃ bb, bb = rr.isSome := ⟨_, rfl⟩
 rw [← hbb] at HF ⊢
 have HBB := LH hbb
 clear hbb
 go_wp2
 refine bodyPost_ret (v := .tuple #[.agg #[.int .i64 a2, .bool s2, .slice A2 n2 c2], .bool bb]) ?_ rfl ?_
 ·simp [results, Tryd.results49, go_sem, fz0, fz1, fz2, lz, z0, z1, z2]
 ·rw [HR.out]; exact HF.out
end Go.Proofs.YtcomdkejpaoneaaDoor
end
