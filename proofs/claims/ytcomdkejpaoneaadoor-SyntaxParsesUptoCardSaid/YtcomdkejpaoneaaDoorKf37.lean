/- Merged for a claim by shake.py: Td -/
import Derived.Test.YtcomdkejpaoneaaDoorKfA
import Derived.Test.YtcomdkejpaoneaaDoorKf34
section
namespace Go.Proofs.YtcomdkejpaoneaaDoor
open Go.RowKit
set_option maxRecDepth 100000
set_option maxHeartbeats 4000000
set_option linter.unusedSimpArgs false
set_option linter.unusedVariables false
theorem rspan10 (x : Value) (r : Rw) (t : Lt) (w : World) (B : Nat) (v : Value) (hx : RwV w B v x r) (hs : r.at_ = 10) :
  Calls Tryd.prog 79 #[x, ltVal t] w (RwRet (rSpan r t) v r.open_ w) := by
 obtain ⟨k, tx, n, a, b⟩ := t
 obtain ⟨hBw, rfl, hv⟩ := hx
 obtain ⟨A, cap, rfl, hc1, hc2⟩ := hv.open_
 obtain ⟨ra, rs, ro⟩ := r
 simp only [] at hv hc1 hs
 subst hs
 have HV := LH hv; have HBW := LH hBw; clear hBw
 clear hv
 unfold ltVal
 show Calls Tryd.prog 79 #[.agg #[.int .i64 10, .bool rs, .slice A ro.length cap], _] w _
 simp only []
 by_cases h1 : k = 1
 ·have e1 : (k == 1) = true := by simpa using h1
  have HR := LH (show rSpan ⟨10, rs, ro⟩ ⟨k, tx, n, a, b⟩ = some ⟨11, rs, ro⟩ from by unfold rSpan sideT; simp [h1, Rw.to])
  clear h1
  go_enter Tryd.func79, Tryd.ntmps79
  go_wp2
  refine bodyPost_ret (v := .tuple #[.agg #[.int .i64 11, .bool rs, .slice A ro.length cap], .bool true]) ?_ rfl ?_
  ·simp [results, Tryd.results79, go_sem, World.cell?_alloc_new]
  ·exact RwRet.good (below3 _ _ _ _) HR.out rfl (RwV.of HV.out HBW.out (below3 _ _ _ _) 11 rs)
 by_cases h3 : k = 3
 ·have e3 : (k == 3) = true := by simpa using h3
  have e1 : (k == 1) = false := by simpa using h1
  have HR := LH (show rSpan ⟨10, rs, ro⟩ ⟨k, tx, n, a, b⟩ = some ⟨11, rs, ro⟩ from by unfold rSpan sideT; simp [h3, Rw.to])
  clear h1 h3
  go_enter Tryd.func79, Tryd.ntmps79
  go_wp2
  refine bodyPost_ret (v := .tuple #[.agg #[.int .i64 11, .bool rs, .slice A ro.length cap], .bool true]) ?_ rfl ?_
  ·simp [results, Tryd.results79, go_sem, World.cell?_alloc_new]
  ·exact RwRet.good (below3 _ _ _ _) HR.out rfl (RwV.of HV.out HBW.out (below3 _ _ _ _) 11 rs)
 have e1 : (k == 1) = false := by simpa using h1
 have e3 : (k == 3) = false := by simpa using h3
 have HB3 := LH (below3 w (.cells #[.int .i64 10, .bool rs, .slice A ro.length cap] 99) (.cells #[.int .i64 k, .string (str tx), .int .i64 n, .int .i64 a, .int .i64 b] 49) (.cells #[.int .i64 0, .bool false, .slice none 0 0] 99))
 have HBR := LH (((Blk.new w 99 #[.int .i64 10, .bool rs, .slice A ro.length cap]).alloc (.cells #[.int .i64 k, .string (str tx), .int .i64 n, .int .i64 a, .int .i64 b] 49)).alloc (.cells #[.int .i64 0, .bool false, .slice none 0 0] 99))
 have HBZ := LH (Blk.new ((w.alloc (.cells #[.int .i64 10, .bool rs, .slice A ro.length cap] 99)).alloc (.cells #[.int .i64 k, .string (str tx), .int .i64 n, .int .i64 a, .int .i64 b] 49)) 99 #[.int .i64 0, .bool false, .slice none 0 0])
 simp only [World.size_alloc] at HBZ
 have HST := LH (fun W => rstar_any ⟨k, tx, n, a, b⟩ W)
 cases hst : starT ⟨k, tx, n, a, b⟩ with
 | true =>
  have HR := LH (show rSpan ⟨10, rs, ro⟩ ⟨k, tx, n, a, b⟩ = some ⟨11, rs, ro⟩ from by unfold rSpan sideT; simp [h1, h3, hst, Rw.to])
  have HVS := LH hst
  clear hst h1 h3
  go_enter Tryd.func79, Tryd.ntmps79
  go_wp2_with fail
  generalize ((w.alloc (.cells #[.int .i64 10, .bool rs, .slice A ro.length cap] 99)).alloc (.cells #[.int .i64 k, .string (str tx), .int .i64 n, .int .i64 a, .int .i64 b] 49)).alloc (.cells #[.int .i64 0, .bool false, .slice none 0 0] 99) = w3 at *
  refine (HST.out w3).mono ?_
  rintro e w4 ⟨rfl, hb4⟩
  rw [HVS.out]
  have hsz3 : w.heap.size ≤ w3.heap.size := HB3.out.size
  have HB4 := LH (HB3.out.trans (hb4.mono hsz3))
  have HR4 := LH (HBR.out.belowW hb4); have HZ4 := LH (HBZ.out.belowW hb4)
  have r0 := HR4.out.cell 0; have r1 := HR4.out.cell 1; have r2 := HR4.out.cell 2
  have fr0 := HR4.out.frozen 0; have fr1 := HR4.out.frozen 1; have fr2 := HR4.out.frozen 2; have lr := HR4.out.lt
  have fz0 := HZ4.out.frozen 0; have fz1 := HZ4.out.frozen 1; have fz2 := HZ4.out.frozen 2; have lz := HZ4.out.lt
  have z0 := HZ4.out.cell 0; have z1 := HZ4.out.cell 1; have z2 := HZ4.out.cell 2
  simp only [List.getElem?_toArray, List.getElem?_cons_zero, List.getElem?_cons_succ] at r0 r1 r2 z0 z1 z2
  clear hb4
  go_wp2
  refine bodyPost_ret (v := .tuple #[.agg #[.int .i64 11, .bool rs, .slice A ro.length cap], .bool true]) ?_ rfl ?_
  ·simp [results, Tryd.results79, go_sem, fz0, fz1, fz2, lz, z0, z1, z2]
  ·have hbz := (((HB4.out.setCell (p := ⟨w.heap.size, 0, none⟩) (Nat.le_refl _) (.int .i64 11)).setCell (p := ⟨w.heap.size + 1 + 1, 0, none⟩) (by show w.heap.size ≤ w.heap.size + 1 + 1; omega) (.int .i64 11)).setCell (p := ⟨w.heap.size + 1 + 1, 1, none⟩) (by show w.heap.size ≤ w.heap.size + 1 + 1; omega) (.bool rs)).setCell (p := ⟨w.heap.size + 1 + 1, 2, none⟩) (by show w.heap.size ≤ w.heap.size + 1 + 1; omega) (.slice A ro.length cap)
   exact RwRet.good hbz HR.out rfl (RwV.of HV.out HBW.out hbz 11 rs)
 | false =>
  have HR := LH (show rSpan ⟨10, rs, ro⟩ ⟨k, tx, n, a, b⟩ = none from by unfold rSpan sideT; simp [h1, h3, hst, Rw.to])
  have HVS := LH hst
  clear hst h1 h3
  go_enter Tryd.func79, Tryd.ntmps79
  go_wp2_with fail
  generalize ((w.alloc (.cells #[.int .i64 10, .bool rs, .slice A ro.length cap] 99)).alloc (.cells #[.int .i64 k, .string (str tx), .int .i64 n, .int .i64 a, .int .i64 b] 49)).alloc (.cells #[.int .i64 0, .bool false, .slice none 0 0] 99) = w3 at *
  refine (HST.out w3).mono ?_
  rintro e w4 ⟨rfl, hb4⟩
  rw [HVS.out]
  have hsz3 : w.heap.size ≤ w3.heap.size := HB3.out.size
  have HB4 := LH (HB3.out.trans (hb4.mono hsz3))
  have HR4 := LH (HBR.out.belowW hb4); have HZ4 := LH (HBZ.out.belowW hb4)
  have r0 := HR4.out.cell 0; have r1 := HR4.out.cell 1; have r2 := HR4.out.cell 2
  have fr0 := HR4.out.frozen 0; have fr1 := HR4.out.frozen 1; have fr2 := HR4.out.frozen 2; have lr := HR4.out.lt
  have fz0 := HZ4.out.frozen 0; have fz1 := HZ4.out.frozen 1; have fz2 := HZ4.out.frozen 2; have lz := HZ4.out.lt
  have z0 := HZ4.out.cell 0; have z1 := HZ4.out.cell 1; have z2 := HZ4.out.cell 2
  simp only [List.getElem?_toArray, List.getElem?_cons_zero, List.getElem?_cons_succ] at r0 r1 r2 z0 z1 z2
  clear hb4
  go_wp2
  refine bodyPost_ret (v := .tuple #[.agg #[.int .i64 11, .bool rs, .slice A ro.length cap], .bool false]) ?_ rfl ?_
  ·simp [results, Tryd.results79, go_sem, fz0, fz1, fz2, lz, z0, z1, z2]
  ·have hbz := (((HB4.out.setCell (p := ⟨w.heap.size, 0, none⟩) (Nat.le_refl _) (.int .i64 11)).setCell (p := ⟨w.heap.size + 1 + 1, 0, none⟩) (by show w.heap.size ≤ w.heap.size + 1 + 1; omega) (.int .i64 11)).setCell (p := ⟨w.heap.size + 1 + 1, 1, none⟩) (by show w.heap.size ≤ w.heap.size + 1 + 1; omega) (.bool rs)).setCell (p := ⟨w.heap.size + 1 + 1, 2, none⟩) (by show w.heap.size ≤ w.heap.size + 1 + 1; omega) (.slice A ro.length cap)
   exact RwRet.bad hbz HR.out rfl
theorem rspan11 (x : Value) (r : Rw) (t : Lt) (w : World) (B : Nat) (v : Value) (hx : RwV w B v x r) (hs : r.at_ = 11) :
  Calls Tryd.prog 79 #[x, ltVal t] w (RwRet (rSpan r t) v r.open_ w) := by
 obtain ⟨k, tx, n, a, b⟩ := t
 obtain ⟨hBw, rfl, hv⟩ := hx
 obtain ⟨A, cap, rfl, hc1, hc2⟩ := hv.open_
 obtain ⟨ra, rs, ro⟩ := r
 simp only [] at hv hc1 hs
 subst hs
 have HV := LH hv; have HBW := LH hBw; clear hBw
 clear hv
 unfold ltVal
 show Calls Tryd.prog 79 #[.agg #[.int .i64 11, .bool rs, .slice A ro.length cap], _] w _
 simp only []
 by_cases h7 : k = 7
 ·have e7 : (k == 7) = true := by simpa using h7
  have HR := LH (show rSpan ⟨11, rs, ro⟩ ⟨k, tx, n, a, b⟩ = some ⟨12, rs, ro⟩ from by unfold rSpan; simp [h7, Rw.to])
  clear h7
  go_enter Tryd.func79, Tryd.ntmps79
  go_wp2
  refine bodyPost_ret (v := .tuple #[.agg #[.int .i64 12, .bool rs, .slice A ro.length cap], .bool true]) ?_ rfl ?_
  ·simp [results, Tryd.results79, go_sem, World.cell?_alloc_new]
  ·exact RwRet.good (below3 _ _ _ _) HR.out rfl (RwV.of HV.out HBW.out (below3 _ _ _ _) 12 rs)
 have e7 : (k == 7) = false := by simpa using h7
 have HR := LH (show rSpan ⟨11, rs, ro⟩ ⟨k, tx, n, a, b⟩ = none from by unfold rSpan; simp [h7])
 clear h7
 go_enter Tryd.func79, Tryd.ntmps79
 go_wp2
 refine bodyPost_ret (v := .tuple #[.agg #[.int .i64 12, .bool rs, .slice A ro.length cap], .bool false]) ?_ rfl ?_
 ·simp [results, Tryd.results79, go_sem, World.cell?_alloc_new]
 ·exact RwRet.bad (below3 _ _ _ _) HR.out rfl
theorem rspan12 (x : Value) (r : Rw) (t : Lt) (w : World) (B : Nat) (v : Value) (hx : RwV w B v x r) (hs : r.at_ = 12) :
  Calls Tryd.prog 79 #[x, ltVal t] w (RwRet (rSpan r t) v r.open_ w) := by
 obtain ⟨k, tx, n, a, b⟩ := t
 obtain ⟨hBw, rfl, hv⟩ := hx
 obtain ⟨A, cap, rfl, hc1, hc2⟩ := hv.open_
 obtain ⟨ra, rs, ro⟩ := r
 simp only [] at hv hc1 hs
 subst hs
 have HV := LH hv; have HBW := LH hBw; clear hBw
 clear hv
 unfold ltVal
 show Calls Tryd.prog 79 #[.agg #[.int .i64 12, .bool rs, .slice A ro.length cap], _] w _
 simp only []
 by_cases h1 : k = 1
 ·have e1 : (k == 1) = true := by simpa using h1
  have HR := LH (show rSpan ⟨12, rs, ro⟩ ⟨k, tx, n, a, b⟩ = some ⟨13, rs, ro⟩ from by unfold rSpan sideT; simp [h1, Rw.to])
  clear h1
  go_enter Tryd.func79, Tryd.ntmps79
  go_wp2
  refine bodyPost_ret (v := .tuple #[.agg #[.int .i64 13, .bool rs, .slice A ro.length cap], .bool true]) ?_ rfl ?_
  ·simp [results, Tryd.results79, go_sem, World.cell?_alloc_new]
  ·exact RwRet.good (below3 _ _ _ _) HR.out rfl (RwV.of HV.out HBW.out (below3 _ _ _ _) 13 rs)
 by_cases h3 : k = 3
 ·have e3 : (k == 3) = true := by simpa using h3
  have e1 : (k == 1) = false := by simpa using h1
  have HR := LH (show rSpan ⟨12, rs, ro⟩ ⟨k, tx, n, a, b⟩ = some ⟨13, rs, ro⟩ from by unfold rSpan sideT; simp [h3, Rw.to])
  clear h1 h3
  go_enter Tryd.func79, Tryd.ntmps79
  go_wp2
  refine bodyPost_ret (v := .tuple #[.agg #[.int .i64 13, .bool rs, .slice A ro.length cap], .bool true]) ?_ rfl ?_
  ·simp [results, Tryd.results79, go_sem, World.cell?_alloc_new]
  ·exact RwRet.good (below3 _ _ _ _) HR.out rfl (RwV.of HV.out HBW.out (below3 _ _ _ _) 13 rs)
 have e1 : (k == 1) = false := by simpa using h1
 have e3 : (k == 3) = false := by simpa using h3
 have HB3 := LH (below3 w (.cells #[.int .i64 12, .bool rs, .slice A ro.length cap] 99) (.cells #[.int .i64 k, .string (str tx), .int .i64 n, .int .i64 a, .int .i64 b] 49) (.cells #[.int .i64 0, .bool false, .slice none 0 0] 99))
 have HBR := LH (((Blk.new w 99 #[.int .i64 12, .bool rs, .slice A ro.length cap]).alloc (.cells #[.int .i64 k, .string (str tx), .int .i64 n, .int .i64 a, .int .i64 b] 49)).alloc (.cells #[.int .i64 0, .bool false, .slice none 0 0] 99))
 have HBZ := LH (Blk.new ((w.alloc (.cells #[.int .i64 12, .bool rs, .slice A ro.length cap] 99)).alloc (.cells #[.int .i64 k, .string (str tx), .int .i64 n, .int .i64 a, .int .i64 b] 49)) 99 #[.int .i64 0, .bool false, .slice none 0 0])
 simp only [World.size_alloc] at HBZ
 have HST := LH (fun W => rstar_any ⟨k, tx, n, a, b⟩ W)
 cases hst : starT ⟨k, tx, n, a, b⟩ with
 | true =>
  have HR := LH (show rSpan ⟨12, rs, ro⟩ ⟨k, tx, n, a, b⟩ = some ⟨13, rs, ro⟩ from by unfold rSpan sideT; simp [h1, h3, hst, Rw.to])
  have HVS := LH hst
  clear hst h1 h3
  go_enter Tryd.func79, Tryd.ntmps79
  go_wp2_with fail
  generalize ((w.alloc (.cells #[.int .i64 12, .bool rs, .slice A ro.length cap] 99)).alloc (.cells #[.int .i64 k, .string (str tx), .int .i64 n, .int .i64 a, .int .i64 b] 49)).alloc (.cells #[.int .i64 0, .bool false, .slice none 0 0] 99) = w3 at *
  refine (HST.out w3).mono ?_
  rintro e w4 ⟨rfl, hb4⟩
  rw [HVS.out]
  have hsz3 : w.heap.size ≤ w3.heap.size := HB3.out.size
  have HB4 := LH (HB3.out.trans (hb4.mono hsz3))
  have HR4 := LH (HBR.out.belowW hb4); have HZ4 := LH (HBZ.out.belowW hb4)
  have r0 := HR4.out.cell 0; have r1 := HR4.out.cell 1; have r2 := HR4.out.cell 2
  have fr0 := HR4.out.frozen 0; have fr1 := HR4.out.frozen 1; have fr2 := HR4.out.frozen 2; have lr := HR4.out.lt
  have fz0 := HZ4.out.frozen 0; have fz1 := HZ4.out.frozen 1; have fz2 := HZ4.out.frozen 2; have lz := HZ4.out.lt
  have z0 := HZ4.out.cell 0; have z1 := HZ4.out.cell 1; have z2 := HZ4.out.cell 2
  simp only [List.getElem?_toArray, List.getElem?_cons_zero, List.getElem?_cons_succ] at r0 r1 r2 z0 z1 z2
  clear hb4
  go_wp2
  refine bodyPost_ret (v := .tuple #[.agg #[.int .i64 13, .bool rs, .slice A ro.length cap], .bool true]) ?_ rfl ?_
  ·simp [results, Tryd.results79, go_sem, fz0, fz1, fz2, lz, z0, z1, z2]
  ·have hbz := (((HB4.out.setCell (p := ⟨w.heap.size, 0, none⟩) (Nat.le_refl _) (.int .i64 13)).setCell (p := ⟨w.heap.size + 1 + 1, 0, none⟩) (by show w.heap.size ≤ w.heap.size + 1 + 1; omega) (.int .i64 13)).setCell (p := ⟨w.heap.size + 1 + 1, 1, none⟩) (by show w.heap.size ≤ w.heap.size + 1 + 1; omega) (.bool rs)).setCell (p := ⟨w.heap.size + 1 + 1, 2, none⟩) (by show w.heap.size ≤ w.heap.size + 1 + 1; omega) (.slice A ro.length cap)
   exact RwRet.good hbz HR.out rfl (RwV.of HV.out HBW.out hbz 13 rs)
 | false =>
  have HR := LH (show rSpan ⟨12, rs, ro⟩ ⟨k, tx, n, a, b⟩ = none from by unfold rSpan sideT; simp [h1, h3, hst, Rw.to])
  have HVS := LH hst
  clear hst h1 h3
  go_enter Tryd.func79, Tryd.ntmps79
  go_wp2_with fail
  generalize ((w.alloc (.cells #[.int .i64 12, .bool rs, .slice A ro.length cap] 99)).alloc (.cells #[.int .i64 k, .string (str tx), .int .i64 n, .int .i64 a, .int .i64 b] 49)).alloc (.cells #[.int .i64 0, .bool false, .slice none 0 0] 99) = w3 at *
  refine (HST.out w3).mono ?_
  rintro e w4 ⟨rfl, hb4⟩
  rw [HVS.out]
  have hsz3 : w.heap.size ≤ w3.heap.size := HB3.out.size
  have HB4 := LH (HB3.out.trans (hb4.mono hsz3))
  have HR4 := LH (HBR.out.belowW hb4); have HZ4 := LH (HBZ.out.belowW hb4)
  have r0 := HR4.out.cell 0; have r1 := HR4.out.cell 1; have r2 := HR4.out.cell 2
  have fr0 := HR4.out.frozen 0; have fr1 := HR4.out.frozen 1; have fr2 := HR4.out.frozen 2; have lr := HR4.out.lt
  have fz0 := HZ4.out.frozen 0; have fz1 := HZ4.out.frozen 1; have fz2 := HZ4.out.frozen 2; have lz := HZ4.out.lt
  have z0 := HZ4.out.cell 0; have z1 := HZ4.out.cell 1; have z2 := HZ4.out.cell 2
  simp only [List.getElem?_toArray, List.getElem?_cons_zero, List.getElem?_cons_succ] at r0 r1 r2 z0 z1 z2
  clear hb4
  go_wp2
  refine bodyPost_ret (v := .tuple #[.agg #[.int .i64 13, .bool rs, .slice A ro.length cap], .bool false]) ?_ rfl ?_
  ·simp [results, Tryd.results79, go_sem, fz0, fz1, fz2, lz, z0, z1, z2]
  ·have hbz := (((HB4.out.setCell (p := ⟨w.heap.size, 0, none⟩) (Nat.le_refl _) (.int .i64 13)).setCell (p := ⟨w.heap.size + 1 + 1, 0, none⟩) (by show w.heap.size ≤ w.heap.size + 1 + 1; omega) (.int .i64 13)).setCell (p := ⟨w.heap.size + 1 + 1, 1, none⟩) (by show w.heap.size ≤ w.heap.size + 1 + 1; omega) (.bool rs)).setCell (p := ⟨w.heap.size + 1 + 1, 2, none⟩) (by show w.heap.size ≤ w.heap.size + 1 + 1; omega) (.slice A ro.length cap)
   exact RwRet.bad hbz HR.out rfl
theorem rspan13 (x : Value) (r : Rw) (t : Lt) (w : World) (B : Nat) (v : Value) (hx : RwV w B v x r) (hs : r.at_ = 13) :
  Calls Tryd.prog 79 #[x, ltVal t] w (RwRet (rSpan r t) v r.open_ w) := by
 obtain ⟨k, tx, n, a, b⟩ := t
 obtain ⟨hBw, rfl, hv⟩ := hx
 obtain ⟨A, cap, rfl, hc1, hc2⟩ := hv.open_
 obtain ⟨ra, rs, ro⟩ := r
 simp only [] at hv hc1 hs
 subst hs
 have HV := LH hv; have HBW := LH hBw; clear hBw
 clear hv
 unfold ltVal
 show Calls Tryd.prog 79 #[.agg #[.int .i64 13, .bool rs, .slice A ro.length cap], _] w _
 simp only []
 by_cases h11 : k = 11
 ·have e11 : (k == 11) = true := by simpa using h11
  have HR := LH (show rSpan ⟨13, rs, ro⟩ ⟨k, tx, n, a, b⟩ = some ⟨9, rs, ro⟩ from by unfold rSpan; simp [h11, Rw.to])
  clear h11
  go_enter Tryd.func79, Tryd.ntmps79
  go_wp2
  refine bodyPost_ret (v := .tuple #[.agg #[.int .i64 9, .bool rs, .slice A ro.length cap], .bool true]) ?_ rfl ?_
  ·simp [results, Tryd.results79, go_sem, World.cell?_alloc_new]
  ·exact RwRet.good (below3 _ _ _ _) HR.out rfl (RwV.of HV.out HBW.out (below3 _ _ _ _) 9 rs)
 by_cases h13 : k = 13
 ·have e13 : (k == 13) = true := by simpa using h13
  have e11 : (k == 11) = false := by simpa using h11
  have HR := LH (show rSpan ⟨13, rs, ro⟩ ⟨k, tx, n, a, b⟩ = some ⟨9, rs, ro⟩ from by unfold rSpan; simp [h13, Rw.to])
  clear h11 h13
  go_enter Tryd.func79, Tryd.ntmps79
  go_wp2
  refine bodyPost_ret (v := .tuple #[.agg #[.int .i64 9, .bool rs, .slice A ro.length cap], .bool true]) ?_ rfl ?_
  ·simp [results, Tryd.results79, go_sem, World.cell?_alloc_new]
  ·exact RwRet.good (below3 _ _ _ _) HR.out rfl (RwV.of HV.out HBW.out (below3 _ _ _ _) 9 rs)
 have e11 : (k == 11) = false := by simpa using h11
 have e13 : (k == 13) = false := by simpa using h13
 have HR := LH (show rSpan ⟨13, rs, ro⟩ ⟨k, tx, n, a, b⟩ = none from by unfold rSpan; simp [h11, h13])
 clear h11 h13
 go_enter Tryd.func79, Tryd.ntmps79
 go_wp2
 refine bodyPost_ret (v := .tuple #[.agg #[.int .i64 9, .bool rs, .slice A ro.length cap], .bool false]) ?_ rfl ?_
 ·simp [results, Tryd.results79, go_sem, World.cell?_alloc_new]
 ·exact RwRet.bad (below3 _ _ _ _) HR.out rfl
theorem rspan_any (x : Value) (r : Rw) (t : Lt) (w : World) (B : Nat) (v : Value) (hx : RwV w B v x r) (h1 : 10 ≤ r.at_) (h2 : r.at_ ≤ 13) :
  Calls Tryd.prog 79 #[x, ltVal t] w (RwRet (rSpan r t) v r.open_ w) := by
 have h3 : r.at_ = 10 ∨ r.at_ = 11 ∨ r.at_ = 12 ∨ r.at_ = 13 := by omega
 rcases h3 with h3 | h3 | h3 | h3
 ·exact rspan10 x r t w B v hx h3
 ·exact rspan11 x r t w B v hx h3
 ·exact rspan12 x r t w B v hx h3
 ·exact rspan13 x r t w B v hx h3
end Go.Proofs.YtcomdkejpaoneaaDoor
end
