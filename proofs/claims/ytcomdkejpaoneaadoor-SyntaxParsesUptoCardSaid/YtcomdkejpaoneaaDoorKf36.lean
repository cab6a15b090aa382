/- Merged for a claim by shake.py: Ti -/
import Derived.Test.YtcomdkejpaoneaaDoorKfA
import Derived.Test.YtcomdkejpaoneaaDoorKf35
section
namespace Go.Proofs.YtcomdkejpaoneaaDoor
open Go.RowKit
set_option maxRecDepth 100000
set_option maxHeartbeats 4000000
set_option linter.unusedSimpArgs false
set_option linter.unusedVariables false
theorem RdL.pop {α : Type} {S : Shape α} {w : World} {B : Nat} {A : Option Addr} {n cap : Nat} {l : List α} {x : α} (h : RdL S w B (.slice A n cap) (l ++ [x])) : RdL S w B (.slice A l.length cap) l := by
 obtain ⟨A', cap', e, h1, h2, h3, h4⟩ := h
 injection e with e1 e2 e3
 subst e1 e3
 rw [List.length_append, List.length_singleton] at h1 h3
 refine ⟨A, cap, rfl, by omega, h2, fun hn => ?_, h4⟩
 obtain ⟨a, e, hb, hc⟩ := h3 (by omega)
 refine ⟨a, e, hb, fun j u hu => hc j u ?_⟩
 rw [Shape.cells_snoc, List.getElem?_append_left (List.getElem?_eq_some_iff.1 hu).1]
 exact hu
theorem at_rb {w : World} {B : Nat} {A : Option Addr} {n cap : Nat} {l : List Bool} {x : Bool} (h : RdL rbS w B (.slice A n cap) (l ++ [x])) : ∃ a, A = some a ∧ (a.add l.length).block < B ∧ w.cell? (a.add l.length) = some (.bool x) := by
 obtain ⟨a, rfl, hb, h0, h⟩ := h.at2 rbOk (k := l.length) (by simp)
 have e : l.length * rbS.size = l.length := Nat.mul_one _
 rw [e] at hb h0
 have hx : (l ++ [x])[l.length]'(by simp) = x := by simp
 rw [hx] at h0
 exact ⟨a, rfl, hb, h0 _ rfl⟩
theorem beh_end {w w4 W : World} {n c : Nat} {v0 : Value} {ro0 : List Bool} {A : Option Addr} {l : List Bool} {x : Bool} {r : Option Rw} {u0 u1 u2 v : Value} (hb4 : Below w.heap.size w w4) (hb : Below w4.heap.size w4 W) (ho : OwnL rbS W w4.heap.size (.slice A n c) l) (lr : w.heap.size < w4.heap.size) (lz : w.heap.size + 1 + 1 < w4.heap.size) (hr : r = some ⟨8, x, l⟩) :
  RwRet r v0 ro0 w (.returned (.tuple #[.agg #[.int .i64 8, .bool x, .slice A n c], .bool true])) (((((W.setCell ⟨w.heap.size, 2, none⟩ v).setCell ⟨w.heap.size, 0, none⟩ (.int .i64 8)).setCell ⟨w.heap.size + 1 + 1, 0, none⟩ u0).setCell ⟨w.heap.size + 1 + 1, 1, none⟩ u1).setCell ⟨w.heap.size + 1 + 1, 2, none⟩ u2) := by
 have h1 : w.heap.size ≤ w.heap.size + 1 + 1 := by omega
 have hB : Below w.heap.size w W := hb4.trans (hb.mono hb4.size)
 have ho2 := ((((ho.far (p := ⟨w.heap.size, 2, none⟩) lr v).far (p := ⟨w.heap.size, 0, none⟩) lr (.int .i64 8)).far (p := ⟨w.heap.size + 1 + 1, 0, none⟩) lz u0).far (p := ⟨w.heap.size + 1 + 1, 1, none⟩) lz u1).far (p := ⟨w.heap.size + 1 + 1, 2, none⟩) lz u2
 refine RwRet.good ?_ hr rfl ⟨_, rfl, .inr (ho2.more hb4.size)⟩
 exact ((((hB.setCell (p := ⟨w.heap.size, 2, none⟩) (Nat.le_refl _) _).setCell (p := ⟨w.heap.size, 0, none⟩) (Nat.le_refl _) _).setCell (p := ⟨w.heap.size + 1 + 1, 0, none⟩) h1 _).setCell (p := ⟨w.heap.size + 1 + 1, 1, none⟩) h1 _).setCell (p := ⟨w.heap.size + 1 + 1, 2, none⟩) h1 _
theorem rbehind_any (x : Value) (r : Rw) (t : Lt) (w : World) (B : Nat) (v : Value) (hx : RwV w B v x r) (hl : r.open_.length ≤ 1000000000) :
  Calls Tryd.prog 80 #[x, ltVal t] w (RwRet (rBehind r t) v r.open_ w) := by
 obtain ⟨k, tx, n, a, b⟩ := t
 obtain ⟨hBw, rfl, hv⟩ := hx
 obtain ⟨A, cap, rfl, hc1, hc2⟩ := hv.open_
 obtain ⟨ra, rs, ro⟩ := r
 simp only [] at hv hc1 hl
 have HV := LH hv; have HBW := LH hBw; clear hBw
 have HL := LH hl
 unfold ltVal
 simp only []
 by_cases hk : k = 18
 ·have HR := LH (show rBehind ⟨ra, rs, ro⟩ ⟨k, tx, n, a, b⟩ = some ⟨9, rs, ro⟩ from by unfold rBehind; rw [if_pos (by simp only []; omega)]; rfl)
  have e18 : ((k : Int) == 18) = true := by rw [hk]; rfl
  clear hk hv hl hc1 hc2
  go_enter Tryd.func80, Tryd.ntmps80
  go_wp2
  refine bodyPost_ret (v := .tuple #[.agg #[.int .i64 9, .bool rs, .slice A ro.length cap], .bool true]) ?_ rfl ?_
  ·simp [results, Tryd.results80, go_sem, World.cell?_alloc_new]
  ·exact RwRet.good (below3 _ _ _ _) HR.out rfl (RwV.of HV.out HBW.out (below3 _ _ _ _) 9 rs)
 have n18 := hk; clear hk
 by_cases hk : k = 19
 ·have HR := LH (show rBehind ⟨ra, rs, ro⟩ ⟨k, tx, n, a, b⟩ = some ⟨9, rs, ro⟩ from by unfold rBehind; rw [if_pos (by simp only []; omega)]; rfl)
  have e18 : ((k : Int) == 18) = false := by rw [hk]; rfl
  have e19 : ((k : Int) == 19) = true := by rw [hk]; rfl
  clear hk hv hl hc1 hc2
  go_enter Tryd.func80, Tryd.ntmps80
  go_wp2
  refine bodyPost_ret (v := .tuple #[.agg #[.int .i64 9, .bool rs, .slice A ro.length cap], .bool true]) ?_ rfl ?_
  ·simp [results, Tryd.results80, go_sem, World.cell?_alloc_new]
  ·exact RwRet.good (below3 _ _ _ _) HR.out rfl (RwV.of HV.out HBW.out (below3 _ _ _ _) 9 rs)
 have n19 := hk; clear hk
 by_cases hk : k = 4
 ·have HR0 := LH (show rBehind ⟨ra, rs, ro⟩ ⟨k, tx, n, a, b⟩ = if rs = true then none else some ⟨1, rs, ro⟩ from by unfold rBehind; rw [if_neg (by simp only []; omega), if_pos (by simp only []; omega)]; rfl)
  have e18 : ((k : Int) == 18) = false := by rw [hk]; rfl
  have e19 : ((k : Int) == 19) = false := by rw [hk]; rfl
  have e4 : ((k : Int) == 4) = true := by rw [hk]; rfl
  clear hk hv hl hc1 hc2
  cases rs with
  | true =>
   have HR := LH (HR0.out.trans (by rfl : _ = none))
   go_enter Tryd.func80, Tryd.ntmps80
   go_wp2
   go_region
   all_goals
    go_wp2
    refine bodyPost_ret (v := .tuple #[.agg #[.int .i64 1, .bool true, .slice A ro.length cap], .bool false]) ?_ rfl ?_
    ·simp [results, Tryd.results80, go_sem, World.cell?_alloc_new]
    ·exact RwRet.bad (below3 _ _ _ _).drew HR.out rfl
  | false =>
   have HR := LH (HR0.out.trans (by rfl : _ = some ⟨1, false, ro⟩))
   go_enter Tryd.func80, Tryd.ntmps80
   go_wp2
   go_region
   all_goals
    go_wp2
    refine bodyPost_ret (v := .tuple #[.agg #[.int .i64 1, .bool false, .slice A ro.length cap], .bool true]) ?_ rfl ?_
    ·simp [results, Tryd.results80, go_sem, World.cell?_alloc_new]
    ·exact RwRet.good (below3 _ _ _ _).drew HR.out rfl (RwV.of HV.out HBW.out (below3 _ _ _ _).drew 1 false)
 have n4 := hk; clear hk
 by_cases hk : k = 5
 ·have HR0 := LH (show rBehind ⟨ra, rs, ro⟩ ⟨k, tx, n, a, b⟩ = if rs = true then none else some ⟨1, rs, ro⟩ from by unfold rBehind; rw [if_neg (by simp only []; omega), if_pos (by simp only []; omega)]; rfl)
  have e18 : ((k : Int) == 18) = false := by rw [hk]; rfl
  have e19 : ((k : Int) == 19) = false := by rw [hk]; rfl
  have e4 : ((k : Int) == 4) = false := by rw [hk]; rfl
  have e5 : ((k : Int) == 5) = true := by rw [hk]; rfl
  clear hk hv hl hc1 hc2
  cases rs with
  | true =>
   have HR := LH (HR0.out.trans (by rfl : _ = none))
   go_enter Tryd.func80, Tryd.ntmps80
   go_wp2
   go_region
   all_goals
    go_wp2
    refine bodyPost_ret (v := .tuple #[.agg #[.int .i64 1, .bool true, .slice A ro.length cap], .bool false]) ?_ rfl ?_
    ·simp [results, Tryd.results80, go_sem, World.cell?_alloc_new]
    ·exact RwRet.bad (below3 _ _ _ _).drew HR.out rfl
  | false =>
   have HR := LH (HR0.out.trans (by rfl : _ = some ⟨1, false, ro⟩))
   go_enter Tryd.func80, Tryd.ntmps80
   go_wp2
   go_region
   all_goals
    go_wp2
    refine bodyPost_ret (v := .tuple #[.agg #[.int .i64 1, .bool false, .slice A ro.length cap], .bool true]) ?_ rfl ?_
    ·simp [results, Tryd.results80, go_sem, World.cell?_alloc_new]
    ·exact RwRet.good (below3 _ _ _ _).drew HR.out rfl (RwV.of HV.out HBW.out (below3 _ _ _ _).drew 1 false)
 have n5 := hk; clear hk
 by_cases hk : k = 17
 ·have HR0 := LH (show rBehind ⟨ra, rs, ro⟩ ⟨k, tx, n, a, b⟩ = if rs = true then none else some ⟨1, rs, ro⟩ from by unfold rBehind; rw [if_neg (by simp only []; omega), if_pos (by simp only []; omega)]; rfl)
  have e18 : ((k : Int) == 18) = false := by rw [hk]; rfl
  have e19 : ((k : Int) == 19) = false := by rw [hk]; rfl
  have e4 : ((k : Int) == 4) = false := by rw [hk]; rfl
  have e5 : ((k : Int) == 5) = false := by rw [hk]; rfl
  have e17 : ((k : Int) == 17) = true := by rw [hk]; rfl
  clear hk hv hl hc1 hc2
  cases rs with
  | true =>
   have HR := LH (HR0.out.trans (by rfl : _ = none))
   go_enter Tryd.func80, Tryd.ntmps80
   go_wp2
   go_region
   all_goals
    go_wp2
    refine bodyPost_ret (v := .tuple #[.agg #[.int .i64 1, .bool true, .slice A ro.length cap], .bool false]) ?_ rfl ?_
    ·simp [results, Tryd.results80, go_sem, World.cell?_alloc_new]
    ·exact RwRet.bad (below3 _ _ _ _).drew HR.out rfl
  | false =>
   have HR := LH (HR0.out.trans (by rfl : _ = some ⟨1, false, ro⟩))
   go_enter Tryd.func80, Tryd.ntmps80
   go_wp2
   go_region
   all_goals
    go_wp2
    refine bodyPost_ret (v := .tuple #[.agg #[.int .i64 1, .bool false, .slice A ro.length cap], .bool true]) ?_ rfl ?_
    ·simp [results, Tryd.results80, go_sem, World.cell?_alloc_new]
    ·exact RwRet.good (below3 _ _ _ _).drew HR.out rfl (RwV.of HV.out HBW.out (below3 _ _ _ _).drew 1 false)
 have n17 := hk; clear hk
 by_cases hk : k = 9
 ·have HR0 := LH (show rBehind ⟨ra, rs, ro⟩ ⟨k, tx, n, a, b⟩ = (match ro.getLast? with | none => none | some b => some ⟨8, b, ro.dropLast⟩) from by unfold rBehind; rw [if_neg (by simp only []; omega), if_neg (by simp only []; omega), if_pos (by simp only []; omega)]; rfl)
  have e18 : ((k : Int) == 18) = false := by rw [hk]; rfl
  have e19 : ((k : Int) == 19) = false := by rw [hk]; rfl
  have e4 : ((k : Int) == 4) = false := by rw [hk]; rfl
  have e5 : ((k : Int) == 5) = false := by rw [hk]; rfl
  have e17 : ((k : Int) == 17) = false := by rw [hk]; rfl
  have e9 : ((k : Int) == 9) = true := by rw [hk]; rfl
  clear hk
  rcases List.eq_nil_or_concat ro with rfl | ⟨l, x, hro⟩
  ·have HR := LH (HR0.out.trans (by rfl : _ = none))
   have HLL : ([] : List Bool).length = 0 := rfl
   rw [HLL]
   clear hv hl hc1 hc2 HLL
   go_enter Tryd.func80, Tryd.ntmps80
   go_wp2
   refine bodyPost_ret (v := .tuple #[.agg #[.int .i64 (ra : Int), .bool rs, .slice A 0 cap], .bool false]) ?_ rfl ?_
   ·simp [results, Tryd.results80, go_sem, World.cell?_alloc_new]
   ·exact RwRet.bad (below3 _ _ _ _) HR.out rfl
  ·rw [List.concat_eq_append] at hro
   subst hro
   have HR := LH (HR0.out.trans (show _ = some ⟨8, x, l⟩ from by rw [List.getLast?_concat, List.dropLast_concat]))
   have hlen : (l ++ [x]).length = l.length + 1 := by simp
   rw [hlen] at hv hc1 hl
   rw [hlen]
   obtain ⟨ad, rfl, hab, hac⟩ := at_rb hv
   have HAB := LH hab; have HAC := LH hac
   have HVP := LH hv.pop
   have hl2 : ((((l.length + 1 : Nat) : Int)) == 0) = false := by simp; omega
   clear hv hab hac hlen HR0
   have HBR := LH ((((Blk.new w 99 #[.int .i64 (ra : Int), .bool rs, .slice (some ad) (l.length + 1) cap]).alloc (.cells #[.int .i64 k, .string (str tx), .int .i64 n, .int .i64 a, .int .i64 b] 49)).alloc (.cells #[.int .i64 0, .bool false, .slice none 0 0] 99)))
   have HBZ := LH (Blk.new ((w.alloc (.cells #[.int .i64 (ra : Int), .bool rs, .slice (some ad) (l.length + 1) cap] 99)).alloc (.cells #[.int .i64 k, .string (str tx), .int .i64 n, .int .i64 a, .int .i64 b] 49)) 99 #[.int .i64 0, .bool false, .slice none 0 0])
   have HB3 := LH (below3 w (.cells #[.int .i64 (ra : Int), .bool rs, .slice (some ad) (l.length + 1) cap] 99) (.cells #[.int .i64 k, .string (str tx), .int .i64 n, .int .i64 a, .int .i64 b] 49) (.cells #[.int .i64 0, .bool false, .slice none 0 0] 99))
   simp only [World.size_alloc] at HBZ
   go_enter Tryd.func80, Tryd.ntmps80
   go_upto_region 12 with (fail)
   generalize ((w.alloc (.cells #[.int .i64 (ra : Int), .bool rs, .slice (some ad) (l.length + 1) cap] 99)).alloc (.cells #[.int .i64 k, .string (str tx), .int .i64 n, .int .i64 a, .int .i64 b] 49)).alloc (.cells #[.int .i64 0, .bool false, .slice none 0 0] 99) = w3 at *
   have hsz3 : w.heap.size ≤ w3.heap.size := HB3.out.size
   have r0 := HBR.out.cell 0; have r1 := HBR.out.cell 1; have r2 := HBR.out.cell 2
   have fr0 := HBR.out.frozen 0; have fr1 := HBR.out.frozen 1; have fr2 := HBR.out.frozen 2; have lr := HBR.out.lt
   have hac : w3.cell? (ad.add l.length) = some (.bool x) := (HB3.out.cell (by have h1 := HAB.out; have h2 := HBW.out; omega)).trans HAC.out
   have hlz := LH HBZ.out.lt
   have hba : ¬ (ad.add l.length).block = w.heap.size := by have h1 := HAB.out; have h2 := HBW.out; omega
   simp only [List.getElem?_toArray, List.getElem?_cons_zero, List.getElem?_cons_succ] at r0 r1 r2
   go_upto_region 16 with (fail)
   have HB4 := LH (HB3.out.setCell (p := ⟨w.heap.size, 1, none⟩) (Nat.le_refl _) (.bool x))
   have HR4 := LH (HBR.out.set_ 1 (.bool x)); have HZ4 := LH (HBZ.out.far (p := ⟨w.heap.size, 1, none⟩) (by show w.heap.size + 1 + 1 ≠ w.heap.size; omega) (.bool x))
   have HS4 := LH (show (w3.setCell ⟨w.heap.size, 1, none⟩ (.bool x)).heap.size = w3.heap.size from set_size _ _ _)
   clear r0 r1 r2 fr0 fr1 fr2 lr hac hba
   generalize w3.setCell ⟨w.heap.size, 1, none⟩ (.bool x) = w4 at *
   have r2 := HR4.out.cell 2; have lr := HR4.out.lt
   simp only [List.setIfInBounds_toArray, List.set_cons_zero, List.set_cons_succ, List.getElem?_toArray, List.getElem?_cons_zero, List.getElem?_cons_succ] at r2
   have HRD := LH (((HVP.out.belowW HBW.out HB4.out).more (Nat.le_trans HBW.out HB4.out.size)).alloc (Nat.le_refl _) (.cells #[] 4))
   have HO := LH (OwnL.lit0 rbS w4 (Nat.le_refl _))
   have HLR := LH lr
   have HLZ := LH HZ4.out.lt
   go_wp2_with (at_builtin; refine OwnL.appendRd rbOk HO.out HRD.out rfl _ _ rfl rfl rfl (by rw [World.size_alloc]; omega) (by simp; omega) ?_)
   intro v5 w5 ho5 hb5
   obtain ⟨A5, c5, rfl, -, -, -⟩ := ho5.open_
   have HO5 := LH (show OwnL rbS w5 w4.heap.size (.slice A5 l.length c5) l from ho5)
   have HB5 := LH (((Below.refl w4.heap.size w4).alloc (Nat.le_refl _) (.cells #[] 4)).trans hb5)
   have hR5 := HR4.out.below HB5.out HLR.out
   have hZ5 := HZ4.out.below HB5.out HLZ.out
   clear ho5 hb5 r2 lr
   have r0 := hR5.cell 0; have r1 := hR5.cell 1; have r2 := hR5.cell 2
   have fr0 := hR5.frozen 0; have fr1 := hR5.frozen 1; have fr2 := hR5.frozen 2; have lr := hR5.lt
   have z0 := hZ5.cell 0; have z1 := hZ5.cell 1; have z2 := hZ5.cell 2; have fz0 := hZ5.frozen 0; have fz1 := hZ5.frozen 1; have fz2 := hZ5.frozen 2; have lz := hZ5.lt
   simp only [List.setIfInBounds_toArray, List.set_cons_zero, List.set_cons_succ, List.getElem?_toArray, List.getElem?_cons_zero, List.getElem?_cons_succ] at r0 r1 r2 z0 z1 z2
   clear hR5 hZ5
   have HZS := LH (show w.heap.size ≠ w.heap.size + 1 + 1 from by omega)
   go_wp2
   refine bodyPost_ret (v := .tuple #[.agg #[.int .i64 8, .bool x, .slice A5 l.length c5], .bool true]) ?_ rfl ?_
   ·simp [results, Tryd.results80, go_sem, fz0, fz1, fz2, lz, z0, z1, z2]
   ·exact beh_end HB4.out HB5.out HO5.out HLR.out HLZ.out HR.out
 have n9 := hk; clear hk
 by_cases hk : k = 0
 ·have HR0 := LH (show rBehind ⟨ra, rs, ro⟩ ⟨k, tx, n, a, b⟩ = if ro = [] then some ⟨14, rs, ro⟩ else none from by unfold rBehind; rw [if_neg (by simp only []; omega), if_neg (by simp only []; omega), if_neg (by simp only []; omega), if_pos (by simp only []; omega)]; rfl)
  have e18 : ((k : Int) == 18) = false := by rw [hk]; rfl
  have e19 : ((k : Int) == 19) = false := by rw [hk]; rfl
  have e4 : ((k : Int) == 4) = false := by rw [hk]; rfl
  have e5 : ((k : Int) == 5) = false := by rw [hk]; rfl
  have e17 : ((k : Int) == 17) = false := by rw [hk]; rfl
  have e9 : ((k : Int) == 9) = false := by rw [hk]; rfl
  have e0 : ((k : Int) == 0) = true := by rw [hk]; rfl
  clear hk
  by_cases hro : ro = []
  ·have HR := LH (HR0.out.trans (if_pos hro))
   have HLL : ro.length = 0 := by rw [hro]; rfl
   obtain ⟨m, hm⟩ : ∃ m, m = ro.length := ⟨_, rfl⟩
   have hm0 : ((m : Int) == 0) = true := by rw [hm, HLL]; rfl
   have HM := LH hm
   rw [← hm]
   clear hv hl hc1 hc2 HLL hro hm
   go_enter Tryd.func80, Tryd.ntmps80
   go_wp2
   go_region
   all_goals
    go_wp2
    refine bodyPost_ret (v := .tuple #[.agg #[.int .i64 14, .bool rs, .slice A m cap], .bool true]) ?_ rfl ?_
    ·simp [results, Tryd.results80, go_sem, World.cell?_alloc_new]
    ·rw [HM.out]; exact RwRet.good (below3 _ _ _ _).drew HR.out rfl (RwV.of HV.out HBW.out (below3 _ _ _ _).drew 14 rs)
  ·have HR := LH (HR0.out.trans (if_neg hro))
   have hpos : 0 < ro.length := List.length_pos_iff.2 hro
   obtain ⟨m, hm⟩ : ∃ m, m = ro.length := ⟨_, rfl⟩
   have hm0 : ((m : Int) == 0) = false := by rw [hm]; simp; omega
   have HM := LH hm
   rw [← hm]
   clear hv hl hc1 hc2 hpos hro hm
   go_enter Tryd.func80, Tryd.ntmps80
   go_wp2
   go_region
   all_goals
    go_wp2
    refine bodyPost_ret (v := .tuple #[.agg #[.int .i64 14, .bool rs, .slice A m cap], .bool false]) ?_ rfl ?_
    ·simp [results, Tryd.results80, go_sem, World.cell?_alloc_new]
    ·exact RwRet.bad (below3 _ _ _ _).drew HR.out rfl
 have n0 := hk; clear hk
 have e18 : ((k : Int) == 18) = false := by simpa using n18
 have e19 : ((k : Int) == 19) = false := by simpa using n19
 have e4 : ((k : Int) == 4) = false := by simpa using n4
 have e5 : ((k : Int) == 5) = false := by simpa using n5
 have e17 : ((k : Int) == 17) = false := by simpa using n17
 have e9 : ((k : Int) == 9) = false := by simpa using n9
 have e0 : ((k : Int) == 0) = false := by simpa using n0
 have HR := LH (show rBehind ⟨ra, rs, ro⟩ ⟨k, tx, n, a, b⟩ = rClause ⟨ra, rs, ro⟩ ⟨k, tx, n, a, b⟩ from by unfold rBehind; rw [if_neg (by simp only []; omega), if_neg (by simp only []; omega), if_neg (by simp only []; omega), if_neg (by simp only []; omega)])
 clear n18 n19 n4 n5 n17 n9 n0 hv hl hc1 hc2
 have HBZ := LH (Blk.new ((w.alloc (.cells #[.int .i64 (ra : Int), .bool rs, .slice A ro.length cap] 99)).alloc (.cells #[.int .i64 k, .string (str tx), .int .i64 n, .int .i64 a, .int .i64 b] 49)) 99 #[.int .i64 0, .bool false, .slice none 0 0])
 have HB3 := LH (below3 w (.cells #[.int .i64 (ra : Int), .bool rs, .slice A ro.length cap] 99) (.cells #[.int .i64 k, .string (str tx), .int .i64 n, .int .i64 a, .int .i64 b] 49) (.cells #[.int .i64 0, .bool false, .slice none 0 0] 99))
 simp only [World.size_alloc] at HBZ
 go_enter Tryd.func80, Tryd.ntmps80
 go_wp2_with fail
 generalize ((w.alloc (.cells #[.int .i64 (ra : Int), .bool rs, .slice A ro.length cap] 99)).alloc (.cells #[.int .i64 k, .string (str tx), .int .i64 n, .int .i64 a, .int .i64 b] 49)).alloc (.cells #[.int .i64 0, .bool false, .slice none 0 0] 99) = w3 at *
 refine (rclause_any _ ⟨ra, rs, ro⟩ ⟨k, tx, n, a, b⟩ w3 B _ ⟨Nat.le_trans HBW.out HB3.out.size, rfl, HV.out.belowW HBW.out HB3.out⟩ HL.out).mono ?_
 rintro e w5 ⟨hb5, x2, rfl, hX, hx2⟩
 have HX := LH hX
 obtain ⟨a2, s2, A2, n2, c2, rfl⟩ := hX
 have HZ5 := LH (HBZ.out.belowW hb5)
 have HF := LH (RwRet.fwd (B := B) (z := w.heap.size + 1 + 1) (u0 := .int .i64 a2) (u1 := .bool s2) (u2 := .slice A2 n2 c2) HBW.out (by omega) HBZ.out.lt HB3.out hb5 HX.out hx2)
 have fz0 := HZ5.out.frozen 0; have fz1 := HZ5.out.frozen 1; have fz2 := HZ5.out.frozen 2; have lz := HZ5.out.lt
 have z0 := HZ5.out.cell 0; have z1 := HZ5.out.cell 1; have z2 := HZ5.out.cell 2
 simp only [List.getElem?_toArray, List.getElem?_cons_zero, List.getElem?_cons_succ] at z0 z1 z2
 clear hb5 hx2
 generalize (rClause ⟨ra, rs, ro⟩ ⟨k, tx, n, a, b⟩) = rr at *
 obtain ⟨bb, hbb⟩ : ∃ bb, bb = rr.isSome := ⟨_, rfl⟩
 rw [← hbb] at HF ⊢
 have HBB := LH hbb
 clear hbb
 go_wp2
 refine bodyPost_ret (v := .tuple #[.agg #[.int .i64 a2, .bool s2, .slice A2 n2 c2], .bool bb]) ?_ rfl ?_
 ·simp [results, Tryd.results80, go_sem, fz0, fz1, fz2, lz, z0, z1, z2]
 ·rw [HR.out]; exact HF.out
end Go.Proofs.YtcomdkejpaoneaaDoor
end
