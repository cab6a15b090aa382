/- Merged for a claim by shake.py: Jmc Jmd -/
import Derived.Test.YthcldpminmhgkaaDoorKrA
import Derived.Test.YthcldpminmhgkaaDoorKr22
import Derived.Test.YthcldpminmhgkaaDoorKr31
set_option maxRecDepth 100000
set_option maxHeartbeats 4000000
set_option linter.unusedSimpArgs false
set_option linter.unusedVariables false
section
namespace Go.Proofs.YthcldpminmhgkaaDoor
open Go.RowKit
def CanOkO (t : Nd) : Prop := ∀ (w : World) (F : Nat → Prop) (x : NV), NdR w F x t → bkN t ≤ 900000000000 → goodN t = true → Calls Tryd.prog 34 #[x.val] w (TrO (canonN t) w)
theorem canon_ofO (kind n : Int) (field text : List UInt8) (lo hi : Bd) (occ : List Int) (ks : List Nd) (ih : ∀ t ∈ ks, CanOkO t) : CanOkO (.mk kind field text n lo hi occ ks) := by
 intro w F x hx hbk hg
 obtain ⟨oa, ka, oc, kc, e, -, hO, hK⟩ := hx.open_
 rw [e]
 clear e hx x
 have hkl : ks.length ≤ 9223372036854775807 := by have h := Nat.le_trans hK.len.1 hK.len.2; unfold maxLen at h; omega
 have hol : occ.length ≤ 9223372036854775807 := by have h : occ.length ≤ maxLen := Nat.le_trans hO.2.1 hO.2.2.1; unfold maxLen at h; omega
 have HK := LH hK; have HO := LH hO
 have hb : bkNs ks ≤ 900000000000 ∧ occ.length ≤ 900000000000 := by rw [bkN] at hbk; omega
 have hgd := hg
 rw [goodN, Bool.and_eq_true] at hgd
 have HGO := LH hgd.1
 have HIH := LH (fun t (ht : t ∈ ks) (W : World) (y : NV) (hy : NdR W F y t) => ih t ht W F y hy (Nat.le_trans (bkNs_mem ht) hb.1) ((goodNs_all _).1 hgd.2 t ht))
 have hob := hb.2
 have HKL := LH (show ks.length ≤ 900000000000 from Nat.le_trans (bkNs_len ks) hb.1)
 have HTT := LH (show canonN (.mk kind field text n lo hi occ ks) = canTop kind field text n lo hi occ (canonNs ks) from by rw [canonN])
 generalize hT : canonN (.mk kind field text n lo hi occ ks) = T at *
 clear hO hK hbk hb ih hT hg hgd
 have HS3 := LH (show (((w.alloc (.cells #[.int .i64 kind, .string (str field), .string (str text), .int .i64 n, .bool lo.open_, .bool lo.in_, .string (str lo.text), .bool hi.open_, .bool hi.in_, .string (str hi.text), .slice oa occ.length oc, .slice ka ks.length kc] 27)).alloc zO).alloc (.cells #[.int .i64 kind, .string (str field), .string (str text), .int .i64 n, .bool lo.open_, .bool lo.in_, .string (str lo.text), .bool hi.open_, .bool hi.in_, .string (str hi.text), .slice oa occ.length oc, .slice ka ks.length kc] 27)).heap.size = w.heap.size + 3 from by rw [World.size_alloc, World.size_alloc, World.size_alloc])
 have HB3 := LH (below3 w (.cells #[.int .i64 kind, .string (str field), .string (str text), .int .i64 n, .bool lo.open_, .bool lo.in_, .string (str lo.text), .bool hi.open_, .bool hi.in_, .string (str hi.text), .slice oa occ.length oc, .slice ka ks.length kc] 27) zO (.cells #[.int .i64 kind, .string (str field), .string (str text), .int .i64 n, .bool lo.open_, .bool lo.in_, .string (str lo.text), .bool hi.open_, .bool hi.in_, .string (str hi.text), .slice oa occ.length oc, .slice ka ks.length kc] 27))
 have HN3 := LH (((Blk.new w 27 #[.int .i64 kind, .string (str field), .string (str text), .int .i64 n, .bool lo.open_, .bool lo.in_, .string (str lo.text), .bool hi.open_, .bool hi.in_, .string (str hi.text), .slice oa occ.length oc, .slice ka ks.length kc]).alloc zO).alloc (.cells #[.int .i64 kind, .string (str field), .string (str text), .int .i64 n, .bool lo.open_, .bool lo.in_, .string (str lo.text), .bool hi.open_, .bool hi.in_, .string (str hi.text), .slice oa occ.length oc, .slice ka ks.length kc] 27))
 have HZ3 := LH (show Blk (((w.alloc (.cells #[.int .i64 kind, .string (str field), .string (str text), .int .i64 n, .bool lo.open_, .bool lo.in_, .string (str lo.text), .bool hi.open_, .bool hi.in_, .string (str hi.text), .slice oa occ.length oc, .slice ka ks.length kc] 27)).alloc zO).alloc (.cells #[.int .i64 kind, .string (str field), .string (str text), .int .i64 n, .bool lo.open_, .bool lo.in_, .string (str lo.text), .bool hi.open_, .bool hi.in_, .string (str hi.text), .slice oa occ.length oc, .slice ka ks.length kc] 27)) (w.heap.size + 1) 27 zA from by have h := (Blk.new (w.alloc (.cells #[.int .i64 kind, .string (str field), .string (str text), .int .i64 n, .bool lo.open_, .bool lo.in_, .string (str lo.text), .bool hi.open_, .bool hi.in_, .string (str hi.text), .slice oa occ.length oc, .slice ka ks.length kc] 27)) 27 zA).alloc (.cells #[.int .i64 kind, .string (str field), .string (str text), .int .i64 n, .bool lo.open_, .bool lo.in_, .string (str lo.text), .bool hi.open_, .bool hi.in_, .string (str hi.text), .slice oa occ.length oc, .slice ka ks.length kc] 27); rw [World.size_alloc] at h; exact h)
 have HC3 := LH (show Blk (((w.alloc (.cells #[.int .i64 kind, .string (str field), .string (str text), .int .i64 n, .bool lo.open_, .bool lo.in_, .string (str lo.text), .bool hi.open_, .bool hi.in_, .string (str hi.text), .slice oa occ.length oc, .slice ka ks.length kc] 27)).alloc zO).alloc (.cells #[.int .i64 kind, .string (str field), .string (str text), .int .i64 n, .bool lo.open_, .bool lo.in_, .string (str lo.text), .bool hi.open_, .bool hi.in_, .string (str hi.text), .slice oa occ.length oc, .slice ka ks.length kc] 27)) (w.heap.size + 1 + 1) 27 #[.int .i64 kind, .string (str field), .string (str text), .int .i64 n, .bool lo.open_, .bool lo.in_, .string (str lo.text), .bool hi.open_, .bool hi.in_, .string (str hi.text), .slice oa occ.length oc, .slice ka ks.length kc] from by have h := Blk.new ((w.alloc (.cells #[.int .i64 kind, .string (str field), .string (str text), .int .i64 n, .bool lo.open_, .bool lo.in_, .string (str lo.text), .bool hi.open_, .bool hi.in_, .string (str hi.text), .slice oa occ.length oc, .slice ka ks.length kc] 27)).alloc zO) 27 #[.int .i64 kind, .string (str field), .string (str text), .int .i64 n, .bool lo.open_, .bool lo.in_, .string (str lo.text), .bool hi.open_, .bool hi.in_, .string (str hi.text), .slice oa occ.length oc, .slice ka ks.length kc]; rw [World.size_alloc, World.size_alloc] at h; exact h)
 go_enter Tryd.func34, Tryd.ntmps34
 go_upto_region 2 with fail
 generalize ((w.alloc (.cells #[.int .i64 kind, .string (str field), .string (str text), .int .i64 n, .bool lo.open_, .bool lo.in_, .string (str lo.text), .bool hi.open_, .bool hi.in_, .string (str hi.text), .slice oa occ.length oc, .slice ka ks.length kc] 27)).alloc zO).alloc (.cells #[.int .i64 kind, .string (str field), .string (str text), .int .i64 n, .bool lo.open_, .bool lo.in_, .string (str lo.text), .bool hi.open_, .bool hi.in_, .string (str hi.text), .slice oa occ.length oc, .slice ka ks.length kc] 27) = w3 at *
 have n10 := HN3.out.cell 10
 simp only [List.getElem?_toArray, List.getElem?_cons_zero, List.getElem?_cons_succ] at n10
 have HRO := LH ((HO.out.belowW HB3.out).inP folOk |>.rd (B := w3.heap.size) (fun _ h => h))
 have HON := LH (OwnL.nil folS w3 (w.heap.size + 3))
 have hB3 : w.heap.size + 3 ≤ w3.heap.size := by rw [HS3.out]; exact Nat.le_refl _
 have hap1 : ([] : List Int).length + occ.length ≤ 970000000000 := by simp; omega
 go_upto_region 3 with (at_builtin; (refine OwnL.appendRP folOk HON.out HRO.out rfl _ _ rfl rfl rfl hB3 hap1 ?_); (intro v4 w4 ho4 hb4); (rw [List.nil_append] at ho4); (obtain ⟨oA, oC, rfl, -, -, -⟩ := ho4.open_); (have HO4 := LH ho4); (have HB4 := LH hb4); (have hc4 := HC3.out.below hb4 (by omega)); (have f11 := hc4.frozen 11); (have f10 := hc4.frozen 10); (have l4 := hc4.lt); (have c11 := hc4.cell 11); (have c10 := hc4.cell 10); (simp only [List.getElem?_toArray, List.getElem?_cons_zero, List.getElem?_cons_succ] at c10 c11); (have HC4 := LH hc4); clear ho4 hb4 hc4)
 have HC5 := LH (show Blk ((w4.setCell ⟨w.heap.size + 1 + 1, 11, none⟩ (.slice none 0 0)).setCell ⟨w.heap.size + 1 + 1, 10, none⟩ (.slice oA occ.length oC)) (w.heap.size + 2) 27 (cnA kind n field text lo hi oA occ.length oC none 0 0) from (HC4.out.set_ 11 (.slice none 0 0)).set_ 10 (.slice oA occ.length oC))
 have HB5 := LH (show Below w.heap.size w ((w4.setCell ⟨w.heap.size + 1 + 1, 11, none⟩ (.slice none 0 0)).setCell ⟨w.heap.size + 1 + 1, 10, none⟩ (.slice oA occ.length oC)) from ((HB3.out.trans (HB4.out.mono (by omega))).setCell (p := ⟨w.heap.size + 1 + 1, 11, none⟩) (by show w.heap.size ≤ w.heap.size + 1 + 1; omega) _).setCell (p := ⟨w.heap.size + 1 + 1, 10, none⟩) (by show w.heap.size ≤ w.heap.size + 1 + 1; omega) _)
 have HZ5 := LH (((HZ3.out.below HB4.out (by omega)).far (p := ⟨w.heap.size + 1 + 1, 11, none⟩) (by show w.heap.size + 1 ≠ w.heap.size + 1 + 1; omega) (.slice none 0 0)).far (p := ⟨w.heap.size + 1 + 1, 10, none⟩) (by show w.heap.size + 1 ≠ w.heap.size + 1 + 1; omega) (.slice oA occ.length oC))
 have HN5 := LH (((HN3.out.below HB4.out (by omega)).far (p := ⟨w.heap.size + 1 + 1, 11, none⟩) (by show w.heap.size ≠ w.heap.size + 1 + 1; omega) (.slice none 0 0)).far (p := ⟨w.heap.size + 1 + 1, 10, none⟩) (by show w.heap.size ≠ w.heap.size + 1 + 1; omega) (.slice oA occ.length oC))
 have HO5 := LH ((HO4.out.far (p := ⟨w.heap.size + 1 + 1, 11, none⟩) (by show w.heap.size + 1 + 1 < w.heap.size + 3; omega) (.slice none 0 0)).far (p := ⟨w.heap.size + 1 + 1, 10, none⟩) (by show w.heap.size + 1 + 1 < w.heap.size + 3; omega) (.slice oA occ.length oC))
 have hsz5 : w.heap.size + 3 ≤ ((w4.setCell ⟨w.heap.size + 1 + 1, 11, none⟩ (.slice none 0 0)).setCell ⟨w.heap.size + 1 + 1, 10, none⟩ (.slice oA occ.length oC)).heap.size := by rw [World.size_setCell, World.size_setCell]; have := HB4.out.size; omega
 generalize (w4.setCell ⟨w.heap.size + 1 + 1, 11, none⟩ (.slice none 0 0)).setCell ⟨w.heap.size + 1 + 1, 10, none⟩ (.slice oA occ.length oC) = w5 at *
 clear f11 f10 l4 c11 c10 n10 hap1 hB3 HC4 HO4
 have n11 := HN5.out.cell 11
 simp only [List.getElem?_toArray, List.getElem?_cons_zero, List.getElem?_cons_succ] at n11
 go_wp2
 clear n11
 go_loopw [15] (fun iv wr => CnRelO w canonNs #[.int .i64 kind, .string (str field), .string (str text), .int .i64 n, .bool lo.open_, .bool lo.in_, .string (str lo.text), .bool hi.open_, .bool hi.in_, .string (str hi.text), .slice oa occ.length oc, .slice ka ks.length kc] ks (cnA kind n field text lo hi oA occ.length oC) occ (.slice oA occ.length oC) iv wr) (fun iv _ => ks.length - (intOf iv).toNat)
 case atStart => exact ⟨0, none, 0, [], Nat.zero_le _, rfl, rfl, KMadeO.start ⟨HC5.out, OwnL.nil _ _ _, NdRs.nil _ _, HO5.out⟩, HB5.out, hsz5, HZ5.out, HN5.out⟩
 case round =>
  clear HC5 HB5 HZ5 HN5 HO5 hsz5
  obtain ⟨j, kA, kc2, nl, hj, rfl, hnl, hkm, hbw, hsz, hz, hn0⟩ := hrel
  have HKM := LH hkm; have HBW := LH hbw; have HZR := LH hz; have HNL := LH hnl; have HNR := LH hn0
  have c11 : wr.cell? ⟨w.heap.size + 1 + 1, 11, none⟩ = some (.slice kA j kc2) := hkm.blk.cell 11
  have lc := hkm.blk.lt
  clear hkm hbw hz hnl hn0
  by_cases hlt : j < ks.length
  ·obtain ⟨a, y, rfl, ⟨hab, q0, q1, q2, q3, q4, q5, q6, q7, q8, q9, q10, q11⟩, hy⟩ := (HK.out.belowW HBW.out).kid hlt
   have hih := HIH.out ks[j] (List.getElem_mem hlt)
   have HTK := LH (canonNs_take hlt)
   generalize ks[j] = t at *
   obtain ⟨kd3, fl3, tx3, xn3, ⟨la3, lb3, lc3⟩, ⟨ra3, rb3, rc3⟩, ⟨oa3, on3, oc3⟩, ⟨ka3, kn3, kc3⟩⟩ := y
   simp only [] at q0 q1 q2 q3 q4 q5 q6 q7 q8 q9 q10 q11
   have HBY := LH (show Below wr.heap.size wr (wr.alloc (.cells #[.int .i64 kd3, .string (str fl3), .string (str tx3), .int .i64 xn3, .bool la3, .bool lb3, .string (str lc3), .bool ra3, .bool rb3, .string (str rc3), .slice oa3 on3 oc3, .slice ka3 kn3 kc3] 27)) from (Below.refl _ _).alloc (Nat.le_refl _) _)
   have HY := LH (Blk.new wr 27 #[.int .i64 kd3, .string (str fl3), .string (str tx3), .int .i64 xn3, .bool la3, .bool lb3, .string (str lc3), .bool ra3, .bool rb3, .string (str rc3), .slice oa3 on3 oc3, .slice ka3 kn3 kc3])
   have hyk := hy.belowW HBY.out
   have HKW := LH (HKM.out.belowW HBY.out)
   have hlk : wr.heap.size < (wr.alloc (.cells #[.int .i64 kd3, .string (str fl3), .string (str tx3), .int .i64 xn3, .bool la3, .bool lb3, .string (str lc3), .bool ra3, .bool rb3, .string (str rc3), .slice oa3 on3 oc3, .slice ka3 kn3 kc3] 27)).heap.size := by rw [World.size_alloc]; omega
   go_upto_region 6 with fail
   clear q0 q1 q2 q3 q4 q5 q6 q7 q8 q9 q10 q11 c11 hab
   generalize wr.alloc (.cells #[.int .i64 kd3, .string (str fl3), .string (str tx3), .int .i64 xn3, .bool la3, .bool lb3, .string (str lc3), .bool ra3, .bool rb3, .string (str rc3), .slice oa3 on3 oc3, .slice ka3 kn3 kc3] 27) = wk at *
   have HC := LH (hih wk.drew _ (hyk.keep fun _ _ _ => rfl))
   unfold NV.val at HC
   simp only [] at HC
   obtain ⟨k0, k1, k2, k3, k4, k5, k6, k7, k8, k9, k10, k11, -⟩ := blk12 HY.out
   have c11 : wk.cell? ⟨w.heap.size + 1 + 1, 11, none⟩ = some (.slice kA j kc2) := HKW.out.blk.cell 11
   have lck := HKW.out.blk.lt
   have HKD := LH (HKW.out.belowW (Below.drew (Below.refl wk.heap.size wk)))
   have hown := own_lt HKW.out.own
   clear hy hih hyk
   go_region_law (first
    | (go_simp; go_at_call 34; refine HC.out.mono ?_; (rintro e w6 ⟨hb6, kd6, xn6, fl6, tx6, la6, lb6, lc6, ra6, rb6, rc6, oa6, on6, oc6, ka6, kn6, kc6, rfl, hx6⟩); (have c116 : w6.cell? ⟨w.heap.size + 1 + 1, 11, none⟩ = some (.slice kA j kc2) := (HKD.out.blk.belowW hb6).cell 11); (have l6 : w.heap.size + 1 + 1 < w6.heap.size := (HKD.out.blk.belowW hb6).lt); (have HB6 := LH hb6); (have HX6 := LH hx6); clear hb6 hx6)
    | (refine OwnL.stepAppendG ndOk ((HKD.out.own.below HB6.out).alloc (.cells #[.int .i64 kd6, .string (str fl6), .string (str tx6), .int .i64 xn6, .bool la6, .bool lb6, .string (str lc6), .bool ra6, .bool rb6, .string (str rc6), .slice oa6 on6 oc6, .slice ka6 kn6 kc6] 27)) ⟨kd6, fl6, tx6, xn6, ⟨la6, lb6, lc6⟩, ⟨ra6, rb6, rc6⟩, ⟨oa6, on6, oc6⟩, ⟨ka6, kn6, kc6⟩⟩ w6.heap.size rfl _ _ rfl rfl rfl (fun j u hj => by rw [World.cell?_alloc_new]; exact (List.getElem?_toArray).trans hj) (by rw [World.size_alloc]; have := HB6.out.size; have : wk.drew.heap.size = wk.heap.size := rfl; omega) (by have := HKL.out; rw [HNL.out]; omega) (fun g7 d7 w7 ho7 hb7 hk7 hg7 hlt7 => ?_); (have hc7 := (((HKD.out.blk.belowW HB6.out).alloc (.cells #[.int .i64 kd6, .string (str fl6), .string (str tx6), .int .i64 xn6, .bool la6, .bool lb6, .string (str lc6), .bool ra6, .bool rb6, .string (str rc6), .slice oa6 on6 oc6, .slice ka6 kn6 kc6] 27)).below hb7 (by omega))); (have f7 : w7.frozen? ⟨w.heap.size + 1 + 1, 11, none⟩ = false := hc7.frozen 11); (have x7 : w7.cell? ⟨w.heap.size + 1 + 1, 11, none⟩ = some (.slice kA j kc2) := hc7.cell 11); (have l7 : w.heap.size + 1 + 1 < w7.heap.size := hc7.lt)))
   all_goals
    have hd6 := HB6.out.size
    have hdk : wk.drew.heap.size = wk.heap.size := rfl
    have hal : Below w6.heap.size w6 (w6.alloc (.cells #[.int .i64 kd6, .string (str fl6), .string (str tx6), .int .i64 xn6, .bool la6, .bool lb6, .string (str lc6), .bool ra6, .bool rb6, .string (str rc6), .slice oa6 on6 oc6, .slice ka6 kn6 kc6] 27)) := (Below.refl _ _).alloc (Nat.le_refl _) _
    have hsa : (w6.alloc (.cells #[.int .i64 kd6, .string (str fl6), .string (str tx6), .int .i64 xn6, .bool la6, .bool lb6, .string (str lc6), .bool ra6, .bool rb6, .string (str rc6), .slice oa6 on6 oc6, .slice ka6 kn6 kc6] 27)).heap.size = w6.heap.size + 1 := World.size_alloc _ _
    rw [HNL.out] at ho7
    have HP := LH (KMadeO.push (w' := w7.setCell ⟨w.heap.size + 1 + 1, 11, none⟩ (.slice (some ⟨g7, 0, none⟩) (nl.length + 1) d7)) HKD.out (HB6.out.trans (hal.mono (by omega))) (by omega) (HX6.out.below hal) ho7 hb7 hk7 (hg7.imp id (fun h => by omega)) (by rw [HNL.out]; exact hc7.set_ 11 _) (fun b hb => Below.heap_setCell _ _ _ _ hb) (World.size_setCell _ _ _))
    have HWB := LH (show Below w.heap.size w (w7.setCell ⟨w.heap.size + 1 + 1, 11, none⟩ (.slice (some ⟨g7, 0, none⟩) (nl.length + 1) d7)) from ((((((HBW.out.trans (HBY.out.mono HBW.out.size)).drew).trans (HB6.out.mono (by omega))).trans (hal.mono (by omega))).trans (hb7.mono (by omega))).setCell (p := ⟨w.heap.size + 1 + 1, 11, none⟩) (by show w.heap.size ≤ w.heap.size + 1 + 1; omega) _))
    have HZF := LH ((((((HZR.out.belowW HBY.out).drew).belowW HB6.out).belowW hal).below hb7 (by omega)).far (p := ⟨w.heap.size + 1 + 1, 11, none⟩) (by show w.heap.size + 1 ≠ w.heap.size + 1 + 1; omega) (.slice (some ⟨g7, 0, none⟩) (nl.length + 1) d7))
    have HNF := LH ((((((HNR.out.belowW HBY.out).drew).belowW HB6.out).belowW hal).below hb7 (by omega)).far (p := ⟨w.heap.size + 1 + 1, 11, none⟩) (by show w.heap.size ≠ w.heap.size + 1 + 1; omega) (.slice (some ⟨g7, 0, none⟩) (nl.length + 1) d7))
    have hsf : w.heap.size + 3 ≤ (w7.setCell ⟨w.heap.size + 1 + 1, 11, none⟩ (.slice (some ⟨g7, 0, none⟩) (nl.length + 1) d7)).heap.size := by rw [World.size_setCell]; have := hb7.size; omega
    clear ho7 hb7 hk7 hg7 hlt7 hc7 f7 x7 l7 hal hsa k0 k1 k2 k3 k4 k5 k6 k7 k8 k9 k10 k11 c11 hd6 hdk
    go_wp2
    go_roundw
    case rel => exact ⟨j + 1, some ⟨g7, 0, none⟩, d7, nl ++ [⟨kd6, fl6, tx6, xn6, ⟨la6, lb6, lc6⟩, ⟨ra6, rb6, rc6⟩, ⟨oa6, on6, oc6⟩, ⟨ka6, kn6, kc6⟩⟩], hlt, by go_num, by rw [List.length_append, HNL.out]; rfl, by rw [HTK.out]; exact HP.out, HWB.out, hsf, HZF.out, HNF.out⟩
    case measure => simp [intOf]; omega
  ·obtain rfl : j = ks.length := by omega
   have hcs : canonNs (ks.take ks.length) = canonNs ks := by rw [List.take_length]
   rw [hcs] at HKM
   clear hcs
   have HNODE := LH (fun (hT : T = .mk kind field text n lo hi occ (canonNs ks)) => (show TrO T w (.returned (NV.val ⟨kind, field, text, n, lo, hi, ⟨oA, occ.length, oC⟩, ⟨kA, ks.length, kc2⟩⟩)) (set12 wr (w.heap.size + 1) ⟨kind, field, text, n, lo, hi, ⟨oA, occ.length, oC⟩, ⟨kA, ks.length, kc2⟩⟩) from by
    have hx := (HKM.out.node (kind := kind) (n := n) (field := field) (text := text) (lo := lo) (hi := hi) (B := w.heap.size + 2) (by omega) HNL.out).set12 (z := w.heap.size + 1) (y := ⟨kind, field, text, n, lo, hi, ⟨oA, occ.length, oC⟩, ⟨kA, ks.length, kc2⟩⟩) (by omega)
    rw [hT]
    refine TrO.mk_ (set12_bel HBW.out (by omega)) (hx.more (by omega))))
   have HFST := LH (fun (c : Nd) (hc : canonNs ks = [c]) (hT : T = c) => (show ∃ (a : Addr) (x : NV), kA = some a ∧ ks.length = 1 ∧ At12 wr a x ∧ TrO T w (.returned (NV.val x)) (set12 wr (w.heap.size + 1) x) from by
    obtain ⟨a, x, h1, h2, h3, h4⟩ := HKM.out.first (B := w.heap.size + 2) (by omega) hc HNL.out
    refine ⟨a, x, h1, h2, h3, ?_⟩
    rw [hT]
    exact TrO.mk_ (set12_bel HBW.out (by omega)) ((h4.set12 (z := w.heap.size + 1) (y := x) (by omega)).more (by omega))))
   have x0 := HKM.out.blk.cell 0; have x1 := HKM.out.blk.cell 1; have x2 := HKM.out.blk.cell 2; have x3 := HKM.out.blk.cell 3; have x4 := HKM.out.blk.cell 4; have x5 := HKM.out.blk.cell 5; have x6 := HKM.out.blk.cell 6; have x7 := HKM.out.blk.cell 7; have x8 := HKM.out.blk.cell 8; have x9 := HKM.out.blk.cell 9; have x10 := HKM.out.blk.cell 10; have x11 := HKM.out.blk.cell 11
   simp only [cnA, List.getElem?_toArray, List.getElem?_cons_zero, List.getElem?_cons_succ] at x0 x1 x2 x3 x4 x5 x6 x7 x8 x9 x10 x11
   obtain ⟨z0, z1, z2, z3, z4, z5, z6, z7, z8, z9, z10, z11, -⟩ := blk12 HZR.out
   have fz0 := HZR.out.frozen 0; have fz1 := HZR.out.frozen 1; have fz2 := HZR.out.frozen 2; have fz3 := HZR.out.frozen 3; have fz4 := HZR.out.frozen 4; have fz5 := HZR.out.frozen 5; have fz6 := HZR.out.frozen 6; have fz7 := HZR.out.frozen 7; have fz8 := HZR.out.frozen 8; have fz9 := HZR.out.frozen 9; have fz10 := HZR.out.frozen 10; have fz11 := HZR.out.frozen 11
   have lz := HZR.out.lt
   have hro := RdF.of_own (F := fun _ => True) HKM.out.occ (fun _ _ _ _ => trivial)
   have HRO2 := LH hro
   clear c11 hro
   by_cases h1 : ks.length = 1
   ·obtain ⟨c, hc⟩ : ∃ c, canonNs ks = [c] := List.length_eq_one_iff.1 (by rw [canonNs_length]; exact h1)
    have HCC := LH hc
    by_cases hk : kind = 10 ∨ kind = 11 ∨ kind = 12 ∨ (kind = 9 ∧ n = 0 ∧ occ[0]? = some 0)
    ·obtain ⟨a, y, rfl, -, ⟨hab, q0, q1, q2, q3, q4, q5, q6, q7, q8, q9, q10, q11⟩, hret⟩ := HFST.out c hc (by rw [HTT.out, hc, canTop, if_pos hk])
     have HRET := LH hret
     obtain ⟨kd3, fl3, tx3, xn3, ⟨la3, lb3, lc3⟩, ⟨ra3, rb3, rc3⟩, ⟨oa3, on3, oc3⟩, ⟨ka3, kn3, kc3⟩⟩ := y
     simp only [] at q0 q1 q2 q3 q4 q5 q6 q7 q8 q9 q10 q11
     clear hret hc
     rw [h1] at x11 ⊢
     rcases hk with rfl | rfl | rfl | ⟨rfl, rfl, ho⟩
     ·go_wp2
      refine bodyPost_ret (v := NV.val ⟨kd3, fl3, tx3, xn3, ⟨la3, lb3, lc3⟩, ⟨ra3, rb3, rc3⟩, ⟨oa3, on3, oc3⟩, ⟨ka3, kn3, kc3⟩⟩) ?_ rfl ?_
      ·simp [results, Tryd.results34, go_sem, NV.val, lz, fz0, fz1, fz2, fz3, fz4, fz5, fz6, fz7, fz8, fz9, fz10, fz11, z0, z1, z2, z3, z4, z5, z6, z7, z8, z9, z10, z11]
      ·exact HRET.out
     ·go_wp2
      refine bodyPost_ret (v := NV.val ⟨kd3, fl3, tx3, xn3, ⟨la3, lb3, lc3⟩, ⟨ra3, rb3, rc3⟩, ⟨oa3, on3, oc3⟩, ⟨ka3, kn3, kc3⟩⟩) ?_ rfl ?_
      ·simp [results, Tryd.results34, go_sem, NV.val, lz, fz0, fz1, fz2, fz3, fz4, fz5, fz6, fz7, fz8, fz9, fz10, fz11, z0, z1, z2, z3, z4, z5, z6, z7, z8, z9, z10, z11]
      ·exact HRET.out
     ·go_wp2
      refine bodyPost_ret (v := NV.val ⟨kd3, fl3, tx3, xn3, ⟨la3, lb3, lc3⟩, ⟨ra3, rb3, rc3⟩, ⟨oa3, on3, oc3⟩, ⟨ka3, kn3, kc3⟩⟩) ?_ rfl ?_
      ·simp [results, Tryd.results34, go_sem, NV.val, lz, fz0, fz1, fz2, fz3, fz4, fz5, fz6, fz7, fz8, fz9, fz10, fz11, z0, z1, z2, z3, z4, z5, z6, z7, z8, z9, z10, z11]
      ·exact HRET.out
     ·have hol1 : 0 < occ.length := by rcases Nat.eq_zero_or_pos occ.length with h | h; (rw [List.eq_nil_of_length_eq_zero h] at ho; cases ho); exact h
      obtain ⟨oa5, rfl, ho0⟩ := occ_cell HRO2.out hol1
      have e0 : oa5.add 0 = oa5 := by unfold Addr.add; rfl
      rw [e0] at ho0
      have e1 : occ[0] = 0 := by rw [List.getElem?_eq_getElem hol1] at ho; injection ho
      rw [e1] at ho0
      clear ho e1 e0
      go_wp2
      refine bodyPost_ret (v := NV.val ⟨kd3, fl3, tx3, xn3, ⟨la3, lb3, lc3⟩, ⟨ra3, rb3, rc3⟩, ⟨oa3, on3, oc3⟩, ⟨ka3, kn3, kc3⟩⟩) ?_ rfl ?_
      ·simp [results, Tryd.results34, go_sem, NV.val, lz, fz0, fz1, fz2, fz3, fz4, fz5, fz6, fz7, fz8, fz9, fz10, fz11, z0, z1, z2, z3, z4, z5, z6, z7, z8, z9, z10, z11]
      ·exact HRET.out
    ·have HTN := LH (HNODE.out (by
      rw [HTT.out]
      rcases canTop_cases kind field text n lo hi occ (canonNs ks) with ⟨c', hc', hk', _⟩ | ⟨_, e⟩
      ·exact absurd hk' hk
      ·exact e))
     clear hc HNODE HFST
     by_cases hk9 : kind = 9
     ·subst hk9
      have HOL := LH (show occ.length = 1 from by
       rcases own_cases HGO.out with ⟨_, _, _, _, h⟩ | ⟨_, _, _, _, _, _, _, _, _, h, _⟩
       ·omega
       ·rw [(h rfl).1, h1])
      rw [h1] at x11 HTN ⊢
      by_cases hn : n = 0
      ·subst hn
       have hol1 : 0 < occ.length := by rw [HOL.out]; exact Nat.lt_succ_self 0
       obtain ⟨oa5, rfl, ho0⟩ := occ_cell HRO2.out hol1
       have e0 : oa5.add 0 = oa5 := by unfold Addr.add; rfl
       rw [e0] at ho0
       have e1 : ¬ occ[0] = 0 := fun e => hk (.inr (.inr (.inr ⟨rfl, rfl, by rw [List.getElem?_eq_getElem hol1, e]⟩)))
       generalize occ[0] = o0 at *
       have e2 : (o0 == 0) = false := by rw [beq_eq_false_iff_ne]; exact e1
       clear e0 hk
       go_wp2
       refine bodyPost_ret (v := NV.val ⟨9, field, text, 0, lo, hi, ⟨some oa5, occ.length, oC⟩, ⟨kA, 1, kc2⟩⟩) ?_ rfl ?_
       ·simp [results, Tryd.results34, go_sem, NV.val, lz, fz0, fz1, fz2, fz3, fz4, fz5, fz6, fz7, fz8, fz9, fz10, fz11, z0, z1, z2, z3, z4, z5, z6, z7, z8, z9, z10, z11]
       ·exact HTN.out
      ·have e2 : (n == 0) = false := by rw [beq_eq_false_iff_ne]; exact hn
       clear hk hn
       go_wp2
       refine bodyPost_ret (v := NV.val ⟨9, field, text, n, lo, hi, ⟨oA, occ.length, oC⟩, ⟨kA, 1, kc2⟩⟩) ?_ rfl ?_
       ·simp [results, Tryd.results34, go_sem, NV.val, lz, fz0, fz1, fz2, fz3, fz4, fz5, fz6, fz7, fz8, fz9, fz10, fz11, z0, z1, z2, z3, z4, z5, z6, z7, z8, z9, z10, z11]
       ·exact HTN.out
     ·have e1 : (kind == 10) = false := by rw [beq_eq_false_iff_ne]; exact fun e => hk (.inl e)
      have e2 : (kind == 11) = false := by rw [beq_eq_false_iff_ne]; exact fun e => hk (.inr (.inl e))
      have e3 : (kind == 12) = false := by rw [beq_eq_false_iff_ne]; exact fun e => hk (.inr (.inr (.inl e)))
      have e4 : (kind == 9) = false := by rw [beq_eq_false_iff_ne]; exact hk9
      rw [h1] at x11 HTN ⊢
      clear hk hk9
      go_wp2
      refine bodyPost_ret (v := NV.val ⟨kind, field, text, n, lo, hi, ⟨oA, occ.length, oC⟩, ⟨kA, 1, kc2⟩⟩) ?_ rfl ?_
      ·simp [results, Tryd.results34, go_sem, NV.val, lz, fz0, fz1, fz2, fz3, fz4, fz5, fz6, fz7, fz8, fz9, fz10, fz11, z0, z1, z2, z3, z4, z5, z6, z7, z8, z9, z10, z11]
      ·exact HTN.out
   ·have hj1 : ((ks.length : Int) != 1) = true := by rw [bne_iff_ne]; omega
    have HTN := LH (HNODE.out (by
     rw [HTT.out]
     rcases canTop_cases kind field text n lo hi occ (canonNs ks) with ⟨c, hc, _, _⟩ | ⟨_, e⟩
     ·exact absurd (by rw [← canonNs_length ks, hc]; rfl) h1
     ·exact e))
    clear h1
    go_wp2
    refine bodyPost_ret (v := NV.val ⟨kind, field, text, n, lo, hi, ⟨oA, occ.length, oC⟩, ⟨kA, ks.length, kc2⟩⟩) ?_ rfl ?_
    ·simp [results, Tryd.results34, go_sem, NV.val, lz, fz0, fz1, fz2, fz3, fz4, fz5, fz6, fz7, fz8, fz9, fz10, fz11, z0, z1, z2, z3, z4, z5, z6, z7, z8, z9, z10, z11]
    ·exact HTN.out
theorem pcanon_anyO (t : Nd) : CanOkO t := nd_ind canon_ofO t
def TrO2 (t : Nd) (v : Value) (w : World) (e : Ending) (w' : World) : Prop := Below w.heap.size w w' ∧ ∃ (kd xn : Int) (fl tx : List UInt8) (la lb : Bool) (lc : List UInt8) (ra rb : Bool) (rc : List UInt8) (oa : Option Addr) (on oc : Nat) (ka : Option Addr) (kn kc : Nat),
 e = .returned (.tuple #[.agg #[.int .i64 kd, .string (str fl), .string (str tx), .int .i64 xn, .bool la, .bool lb, .string (str lc), .bool ra, .bool rb, .string (str rc), .slice oa on oc, .slice ka kn kc], v]) ∧ OwnT w' w.heap.size ⟨kd, fl, tx, xn, ⟨la, lb, lc⟩, ⟨ra, rb, rc⟩, ⟨oa, on, oc⟩, ⟨ka, kn, kc⟩⟩ t
theorem TrO2.set {t : Nd} {v : Value} {w W : World} {z : Nat} {kd xn : Int} {fl tx : List UInt8} {la lb : Bool} {lc : List UInt8} {ra rb : Bool} {rc : List UInt8} {oa : Option Addr} {on oc : Nat} {ka : Option Addr} {kn kc : Nat} (hb : Below w.heap.size w W) (hz : w.heap.size ≤ z) (hx : OwnT W (z + 1) ⟨kd, fl, tx, xn, ⟨la, lb, lc⟩, ⟨ra, rb, rc⟩, ⟨oa, on, oc⟩, ⟨ka, kn, kc⟩⟩ t) :
  TrO2 t v w (.returned (.tuple #[.agg #[.int .i64 kd, .string (str fl), .string (str tx), .int .i64 xn, .bool la, .bool lb, .string (str lc), .bool ra, .bool rb, .string (str rc), .slice oa on oc, .slice ka kn kc], v])) (set12 W z ⟨kd, fl, tx, xn, ⟨la, lb, lc⟩, ⟨ra, rb, rc⟩, ⟨oa, on, oc⟩, ⟨ka, kn, kc⟩⟩) :=
 ⟨set12_bel hb hz, kd, xn, fl, tx, la, lb, lc, ra, rb, rc, oa, on, oc, ka, kn, kc, rfl, (hx.set12 (Nat.lt_succ_self _)).more (Nat.le_succ_of_le hz)⟩
theorem pcanonw_yesO (t : Nd) (hg : goodN t = true) (w : World) (F : Nat → Prop) (x : NV) (ea : List Addr) (ei : Nat) (hx : NdR w F x t) (hbk : bkN t ≤ 900000000000) (hA : AskEnv w) (hE : ErrAt w 0 (errI ea ei)) :
  Calls Tryd.prog 16 #[x.val] w (TrO2 (canonN t) .nilIface w) := by
 have HA := LH hA; have HE := LH hE; have HX := LH hx
 clear hA hE hx
 obtain ⟨kd, fl, tx, xn, ⟨la, lb, lc⟩, ⟨ra, rb, rc⟩, ⟨oa, on, oc⟩, ⟨ka, kn, kc⟩⟩ := x
 have HB1 := LH (((Below.refl w.heap.size w).alloc (Nat.le_refl _) (.cells #[.int .i64 kd, .string (str fl), .string (str tx), .int .i64 xn, .bool la, .bool lb, .string (str lc), .bool ra, .bool rb, .string (str rc), .slice oa on oc, .slice ka kn kc] 27)).alloc (by rw [World.size_alloc]; exact Nat.le_succ _) zO)
 have HN1 := LH ((Blk.new w 27 #[.int .i64 kd, .string (str fl), .string (str tx), .int .i64 xn, .bool la, .bool lb, .string (str lc), .bool ra, .bool rb, .string (str rc), .slice oa on oc, .slice ka kn kc]).alloc zO)
 have HZ1 := LH (show Blk ((w.alloc (.cells #[.int .i64 kd, .string (str fl), .string (str tx), .int .i64 xn, .bool la, .bool lb, .string (str lc), .bool ra, .bool rb, .string (str rc), .slice oa on oc, .slice ka kn kc] 27)).alloc zO) (w.heap.size + 1) 27 zA from by have h := Blk.new (w.alloc (.cells #[.int .i64 kd, .string (str fl), .string (str tx), .int .i64 xn, .bool la, .bool lb, .string (str lc), .bool ra, .bool rb, .string (str rc), .slice oa on oc, .slice ka kn kc] 27)) 27 zA; rw [World.size_alloc] at h; exact h)
 have HX1 := LH (HX.out.belowW HB1.out)
 have HC := LH (pcheck_any t ((w.alloc (.cells #[.int .i64 kd, .string (str fl), .string (str tx), .int .i64 xn, .bool la, .bool lb, .string (str lc), .bool ra, .bool rb, .string (str rc), .slice oa on oc, .slice ka kn kc] 27)).alloc zO) F _ ea ei HX1.out hbk (HA.out.below HB1.out) (HE.out.below HE.out.2 HB1.out))
 have HK := LH (fun (W : World) (hW : NdR W F ⟨kd, fl, tx, xn, ⟨la, lb, lc⟩, ⟨ra, rb, rc⟩, ⟨oa, on, oc⟩, ⟨ka, kn, kc⟩⟩ t) => pcanon_anyO t W F _ hW hbk hg)
 unfold NV.val at HC HK ⊢
 simp only [] at HC HK
 go_enter Tryd.func16, Tryd.ntmps16
 go_wp2_with fail
 generalize ((w.alloc (.cells #[.int .i64 kd, .string (str fl), .string (str tx), .int .i64 xn, .bool la, .bool lb, .string (str lc), .bool ra, .bool rb, .string (str rc), .slice oa on oc, .slice ka kn kc] 27)).alloc zO) = w1 at *
 have hn := HN1.out
 have nzz := HN1.out
 obtain ⟨n0, n1, n2, n3, n4, n5, n6, n7, n8, n9, n10, n11, -, -, -, -, -, -, -, -, -, -, -, -, ln⟩ := blk12 nzz; (try simp only [World.size_alloc] at ln)
 clear nzz
 refine HC.out.mono ?_
 rintro e w2 h
 obtain ⟨hb2, rfl⟩ := h.iyes hg
 have HB2 := LH (HB1.out.trans (hb2.mono HB1.out.size))
 have HN2 := LH (HN1.out.belowW hb2)
 have HZ2 := LH (HZ1.out.belowW hb2)
 have HX2 := LH (HX1.out.belowW hb2)
 clear hb2 h n0 n1 n2 n3 n4 n5 n6 n7 n8 n9 n10 n11 ln hn
 have nzz := HN2.out
 obtain ⟨n0, n1, n2, n3, n4, n5, n6, n7, n8, n9, n10, n11, -, -, -, -, -, -, -, -, -, -, -, -, ln⟩ := blk12 nzz; (try simp only [World.size_alloc] at ln)
 clear nzz
 have HKK := LH (HK.out w2 HX2.out)
 go_wp2_with fail
 refine HKK.out.mono ?_
 rintro e w3 ⟨hb3, kq, nq, fq, tq, aq, bq, cq, dq, eq, gq, oq, pq, qq, rq, sq, uq, rfl, hy⟩
 have HB3 := LH (HB2.out.trans (hb3.mono HB2.out.size))
 have HZ3 := LH (HZ2.out.belowW hb3)
 have hz2 := HZ2.out.lt
 have HY3 := LH (hy.more (B2 := w.heap.size + 1 + 1) hz2)
 clear hb3 hy n0 n1 n2 n3 n4 n5 n6 n7 n8 n9 n10 n11 ln hz2
 have zzz := HZ3.out
 obtain ⟨z0, z1, z2, z3, z4, z5, z6, z7, z8, z9, z10, z11, fz0, fz1, fz2, fz3, fz4, fz5, fz6, fz7, fz8, fz9, fz10, fz11, lz⟩ := blk12 zzz; (try simp only [World.size_alloc] at lz)
 clear zzz
 go_wp2
 refine bodyPost_ret (v := .tuple #[.agg #[.int .i64 kq, .string (str fq), .string (str tq), .int .i64 nq, .bool aq, .bool bq, .string (str cq), .bool dq, .bool eq, .string (str gq), .slice oq pq qq, .slice rq sq uq], .nilIface]) ?_ rfl ?_
 ·simp [results, Tryd.results16, go_sem, NV.val, lz, fz0, fz1, fz2, fz3, fz4, fz5, fz6, fz7, fz8, fz9, fz10, fz11, z0, z1, z2, z3, z4, z5, z6, z7, z8, z9, z10, z11]
 ·exact TrO2.set HB3.out (Nat.le_succ _) HY3.out
end Go.Proofs.YthcldpminmhgkaaDoor
end
