/- Merged for a claim by shake.py: Tg Th -/
import Derived.Test.YtcomdkejpaoneaaDoorKfA
import Derived.Test.YtcomdkejpaoneaaDoorKf34
section
namespace Go.Proofs.YtcomdkejpaoneaaDoor
open Go.RowKit
set_option maxRecDepth 100000
set_option maxHeartbeats 4000000
set_option linter.unusedSimpArgs false
set_option linter.unusedVariables false
theorem alloc_cell0' {w : World} {cs : Array Value} {t : TypeId} {b : Nat} {u : Value} (hb : b = w.heap.size) (h : cs[0]? = some u) : (w.alloc (.cells cs t)).cell? ⟨b, 0, none⟩ = some u := by
 subst hb; rw [World.cell?_alloc_new]; exact h
theorem enc1 {w : World} {b : Nat} {x : Bool} (h : w.cell? ⟨b, 0, none⟩ = some (.bool x)) : ∀ j u, (rbS.enc x)[j]? = some u → w.cell? ⟨b, j, none⟩ = some u := by
 intro j u hu
 cases j with
 | zero => cases hu; exact h
 | succ j => cases hu
theorem OwnL.lit0' {w : World} {t : TypeId} {B b : Nat} (hb : b = w.heap.size) (hB : B ≤ w.heap.size) (ht : t = rbS.tE) : OwnL rbS (w.alloc (.cells #[] t)) B (.slice (some ⟨b, 0, none⟩) 0 0) [] := by
 subst hb; subst ht; exact OwnL.lit0 rbS w hB
theorem KeptBut.cellSome {w w' : World} {v : Value} {B b o : Nat} {l : List Bool} {u : Value} (h : KeptBut w w' v) (ho : OwnL rbS w B v l) (hc : w.cell? ⟨b, o, none⟩ = some u) (hne : v.ownBlock ≠ some b) : w'.cell? ⟨b, o, none⟩ = some u := by
 have hlt : b < w.heap.size := by
  rcases Nat.lt_or_ge b w.heap.size with h1 | h1
  ·exact h1
  ·rw [World.cell?, show w.heap[b]? = none from Array.getElem?_eq_none h1] at hc; cases hc
 exact (h.cell hlt hne).trans hc
theorem begun_end {w w4 W : World} {g c : Nat} {v0 : Value} {ro0 : List Bool} {ro : List Bool} {rs : Bool} {r : Option Rw} (hb4 : Below w.heap.size w w4) (hb : Below w4.heap.size w4 W) (ho : OwnL rbS W w4.heap.size (.slice (some ⟨g, 0, none⟩) (ro.length + 1) c) (ro ++ [rs])) (lr : w.heap.size < w4.heap.size) (lz : w.heap.size + 1 + 1 < w4.heap.size) (hr : r = some ⟨0, false, ro ++ [rs]⟩) :
  RwRet r v0 ro0 w (.returned (.tuple #[.agg #[.int .i64 0, .bool false, .slice (some ⟨g, 0, none⟩) (ro.length + 1) c], .bool true])) ((((((W.setCell ⟨w.heap.size, 2, none⟩ (.slice (some ⟨g, 0, none⟩) (ro.length + 1) c)).setCell ⟨w.heap.size, 1, none⟩ (.bool false)).setCell ⟨w.heap.size, 0, none⟩ (.int .i64 0)).setCell ⟨w.heap.size + 1 + 1, 0, none⟩ (.int .i64 0)).setCell ⟨w.heap.size + 1 + 1, 1, none⟩ (.bool false)).setCell ⟨w.heap.size + 1 + 1, 2, none⟩ (.slice (some ⟨g, 0, none⟩) (ro.length + 1) c)) := by
 have h1 : w.heap.size ≤ w.heap.size + 1 + 1 := by omega
 have hB : Below w.heap.size w W := hb4.trans (hb.mono hb4.size)
 have ho2 := (((((ho.far (p := ⟨w.heap.size, 2, none⟩) lr (.slice (some ⟨g, 0, none⟩) (ro.length + 1) c)).far (p := ⟨w.heap.size, 1, none⟩) lr (.bool false)).far (p := ⟨w.heap.size, 0, none⟩) lr (.int .i64 0)).far (p := ⟨w.heap.size + 1 + 1, 0, none⟩) lz (.int .i64 0)).far (p := ⟨w.heap.size + 1 + 1, 1, none⟩) lz (.bool false)).far (p := ⟨w.heap.size + 1 + 1, 2, none⟩) lz (.slice (some ⟨g, 0, none⟩) (ro.length + 1) c)
 refine RwRet.good ?_ hr rfl ⟨_, rfl, ?_⟩
 ·exact (((((hB.setCell (p := ⟨w.heap.size, 2, none⟩) (Nat.le_refl _) _).setCell (p := ⟨w.heap.size, 1, none⟩) (Nat.le_refl _) _).setCell (p := ⟨w.heap.size, 0, none⟩) (Nat.le_refl _) _).setCell (p := ⟨w.heap.size + 1 + 1, 0, none⟩) h1 _).setCell (p := ⟨w.heap.size + 1 + 1, 1, none⟩) h1 _).setCell (p := ⟨w.heap.size + 1 + 1, 2, none⟩) h1 _
 ·exact .inr (ho2.more hb4.size)
theorem rbegun_8 (x : Value) (r : Rw) (t : Lt) (field : Bool) (w : World) (B : Nat) (v : Value) (hx : RwV w B v x r) (h8 : t.kind = 8) (hl : r.open_.length ≤ 1000000000) :
  Calls Tryd.prog 77 #[x, ltVal t, .bool field] w (RwRet (rBegun r t field) v r.open_ w) := by
 obtain ⟨k, tx, n, a, b⟩ := t
 obtain ⟨hBw, rfl, hv⟩ := hx
 obtain ⟨A, cap, rfl, hc1, hc2⟩ := hv.open_
 obtain ⟨ra, rs, ro⟩ := r
 simp only [] at hv hc1 h8 hl
 have HV := LH hv; have HBW := LH hBw; clear hBw
 clear hv
 unfold ltVal
 simp only []
 have HR0 := LH (show rBegun ⟨ra, rs, ro⟩ ⟨k, tx, n, a, b⟩ field = some ⟨0, false, ro ++ [rs]⟩ from by unfold rBegun rAtom; simp [h8])
 have hat : atomI ⟨k, tx, n, a, b⟩ field = 0 := by unfold atomI rAtom; simp [h8]
 have e6 : (k == 6) = false := by rw [h8]; decide
 have e8 : (k == 8) = true := by rw [h8]; decide
 have HAT := LH hat
 have HL := LH hl
 have HCC := LH hc1
 clear h8 hat hl hc1 hc2
 have HBR := LH ((((Blk.new w 99 #[.int .i64 (ra : Int), .bool rs, .slice A ro.length cap]).alloc (.cells #[.int .i64 k, .string (str tx), .int .i64 n, .int .i64 a, .int .i64 b] 49)).alloc (.cells #[.int .i64 0, .bool false, .slice none 0 0] 99)))
 have HBT := LH ((Blk.new (w.alloc (.cells #[.int .i64 (ra : Int), .bool rs, .slice A ro.length cap] 99)) 49 #[.int .i64 k, .string (str tx), .int .i64 n, .int .i64 a, .int .i64 b]).alloc (.cells #[.int .i64 0, .bool false, .slice none 0 0] 99))
 have HBZ := LH (Blk.new ((w.alloc (.cells #[.int .i64 (ra : Int), .bool rs, .slice A ro.length cap] 99)).alloc (.cells #[.int .i64 k, .string (str tx), .int .i64 n, .int .i64 a, .int .i64 b] 49)) 99 #[.int .i64 0, .bool false, .slice none 0 0])
 have HB3 := LH (below3 w (.cells #[.int .i64 (ra : Int), .bool rs, .slice A ro.length cap] 99) (.cells #[.int .i64 k, .string (str tx), .int .i64 n, .int .i64 a, .int .i64 b] 49) (.cells #[.int .i64 0, .bool false, .slice none 0 0] 99))
 simp only [World.size_alloc] at HBT HBZ
 go_enter Tryd.func77, Tryd.ntmps77
 go_wp2_with fail
 generalize ((w.alloc (.cells #[.int .i64 (ra : Int), .bool rs, .slice A ro.length cap] 99)).alloc (.cells #[.int .i64 k, .string (str tx), .int .i64 n, .int .i64 a, .int .i64 b] 49)).alloc (.cells #[.int .i64 0, .bool false, .slice none 0 0] 99) = w3 at *
 refine (ratom_any ⟨k, tx, n, a, b⟩ _ w3).mono ?_
 rintro e w4 ⟨rfl, hb4⟩
 have hsz3 : w.heap.size ≤ w3.heap.size := HB3.out.size
 have HB4 := LH (HB3.out.trans (hb4.mono hsz3))
 have HR4 := LH (HBR.out.belowW hb4); have HT4 := LH (HBT.out.belowW hb4); have HZ4 := LH (HBZ.out.belowW hb4)
 have t0 := HT4.out.cell 0
 have lr := HR4.out.lt; have lz := HZ4.out.lt
 simp only [List.getElem?_toArray, List.getElem?_cons_zero, List.getElem?_cons_succ] at t0
 have HSZ4 := LH (show w.heap.size ≤ w4.heap.size from HB4.out.size)
 have HRD := LH (fun (W : World) (hW : Below w4.heap.size w4 W) => (((HV.out.belowW HBW.out HB4.out).more (Nat.le_trans HBW.out HB4.out.size)).below hW))
 have HS := LH (fun (W : World) (hW : Below w4.heap.size w4 W) => (show W.cell? ⟨w.heap.size, 1, none⟩ = some (.bool rs) ∧ W.cell? ⟨w.heap.size, 2, none⟩ = some (.slice A ro.length cap) from ⟨(hW.cell (p := ⟨w.heap.size, 1, none⟩) lr).trans (HR4.out.cell 1), (hW.cell (p := ⟨w.heap.size, 2, none⟩) lr).trans (HR4.out.cell 2)⟩))
 have HBR2 := LH (fun (W : World) (hW : Below w4.heap.size w4 W) => HR4.out.below hW lr)
 have HBZ2 := LH (fun (W : World) (hW : Below w4.heap.size w4 W) => HZ4.out.below hW lz)
 clear hb4
 rw [HAT.out]
 go_wp2_with fail
 refine ph_region (fun W => W.cell? ⟨w.heap.size, 1, none⟩ = some (.bool rs) ∧ W.cell? ⟨w.heap.size, 2, none⟩ = some (.slice A ro.length cap)) 9 (by kernel_rfl) ?_
 have hS0 := HS.out w4.drew (Below.refl _ _).drew
 refine phAny_take (i := 1) (v := .pointer (some ⟨w.heap.size, 2, none⟩)) [7, 3, 2] rfl (by kernel_rfl) (fun _ _ _ h => h) (Or.inl ⟨by rfl, fun W1 hS1 => by obtain ⟨s0, s1⟩ := hS1; clear hS0; go_simp⟩) hS0 ?_
 simp only [Act.put, List.setIfInBounds_toArray, List.set_cons_zero, List.set_cons_succ]
 refine phAny_take (i := 2) (v := .slice A ro.length cap) [7, 3] rfl (by kernel_rfl) (fun _ _ _ h => h) (Or.inl ⟨by rfl, fun W1 hS1 => by obtain ⟨s0, s1⟩ := hS1; clear hS0; go_simp⟩) hS0 ?_
 simp only [Act.put, List.setIfInBounds_toArray, List.set_cons_zero, List.set_cons_succ]
 refine phAny_take (i := 4) (v := .pointer (some ⟨w.heap.size, 1, none⟩)) [7, 6, 5] rfl (by kernel_rfl) (fun _ _ _ h => h) (Or.inl ⟨by rfl, fun W1 hS1 => by obtain ⟨s0, s1⟩ := hS1; clear hS0; go_simp⟩) hS0 ?_
 simp only [Act.put, List.setIfInBounds_toArray, List.set_cons_zero, List.set_cons_succ]
 refine phAny_take (i := 5) (v := .bool rs) [7, 6] rfl (by kernel_rfl) (fun _ _ _ h => h) (Or.inl ⟨by rfl, fun W1 hS1 => by obtain ⟨s0, s1⟩ := hS1; clear hS0; go_simp⟩) hS0 ?_
 simp only [Act.put, List.setIfInBounds_toArray, List.set_cons_zero, List.set_cons_succ]
 clear hS0 t0
 have B0 := LH (show Below w4.heap.size w4 w4.drew from (Below.refl _ _).drew)
 refine phAny_ready (rs := [0, 6]) (by kernel_rfl) (by simp) ?_
 refine phAll.cons rfl (fun K hK => ?_) ?_
 ·skip
  go_simp
  have B1 := LH (B0.out.alloc (B0.out.size) (.cells #[] 4))
  have O2 := LH (OwnL.lit0' (w := w4.drew) (t := 4) (B := w4.heap.size) (b := w4.heap.size) (by simp) (by have := B0.out.size; exact this) rfl)
  refine hK.out _ _ (fun _ => HS.out _ B1.out) ?_
  clear hK K
  try simp only [Act.put, List.setIfInBounds_toArray, List.set_cons_zero, List.set_cons_succ]
  refine phAny_ready (rs := [3, 6]) (by kernel_rfl) (by simp) ?_
  refine phAll.cons rfl (fun K hK => ?_) ?_
  ·skip
   refine OwnL.stepAppendAny rbOk O2.out (HRD.out _ B1.out) rfl _ _ rfl rfl rfl (B1.out.size) (by have := HL.out; simp; omega) (fun v5 wx4 h2 h3 h3k h5 => ?_)
   have B3 := LH (B1.out.trans h3)
   have O6 := LH (show OwnL rbS wx4 w4.heap.size v5 ro from h2)
   clear h2 h3 h3k h5
   refine hK.out _ _ (fun _ => HS.out _ B3.out) ?_
   clear hK K
   try simp only [Act.put, List.setIfInBounds_toArray, List.set_cons_zero, List.set_cons_succ]
   refine phAny_ready (rs := [6]) (by kernel_rfl) (by simp) ?_
   refine phAll.cons rfl (fun K hK => ?_) ?_
   ·skip
    go_simp
    have B7 := LH (B3.out.alloc (B3.out.size) (.cells #[.bool rs] 4))
    have C8 := LH (show (wx4.alloc (.cells #[.bool rs] 4)).cell? ⟨wx4.heap.size, 0, none⟩ = some (.bool rs) from alloc_cell0' (by simp) rfl)
    have O9 := LH (O6.out.alloc (.cells #[.bool rs] 4))
    refine hK.out _ _ (fun _ => HS.out _ B7.out) ?_
    clear hK K
    try simp only [Act.put, List.setIfInBounds_toArray, List.set_cons_zero, List.set_cons_succ]
    refine phAny_ready (rs := [7]) (by kernel_rfl) (by simp) ?_
    refine phAll.cons rfl (fun K hK => ?_) ?_
    ·skip
     refine OwnL.stepAppendG rbOk O9.out rs _ rfl _ _ rfl rfl rfl (enc1 C8.out) (B7.out.size) (by have := HL.out; omega) (fun g12 c13 wx11 h2 h3 h3k h4 h5 => ?_)
     have B10 := LH (B7.out.trans h3)
     have O14 := LH h2
     clear h2 h3 h3k h4 h5
     refine hK.out _ _ (fun _ => HS.out _ B10.out) ?_
     clear hK K
     try simp only [Act.put, List.setIfInBounds_toArray, List.set_cons_zero, List.set_cons_succ]
     refine phAny_pure (i := 8) (v := .pointer (some ⟨w.heap.size, 2, none⟩)) rfl (by kernel_rfl) (fun _ _ _ h => h) (Or.inl ⟨by rfl, fun W1 _ => by go_simp⟩) (fun _ => HS.out _ B10.out) ?_
     try simp only [Act.put, List.setIfInBounds_toArray, List.set_cons_zero, List.set_cons_succ]
     refine phAny_ready (rs := [9]) (by kernel_rfl) (by simp) ?_
     refine phAll.cons rfl (fun K hK => ?_) ?_
     ·skip
      have hbr := HBR2.out wx11 B10.out
      have hbz := HBZ2.out wx11 B10.out
      have r0 := hbr.cell 0; have r1 := hbr.cell 1; have r2 := hbr.cell 2; have fr0 := hbr.frozen 0; have fr1 := hbr.frozen 1; have fr2 := hbr.frozen 2; have lr5 := hbr.lt
      have z0 := hbz.cell 0; have z1 := hbz.cell 1; have z2 := hbz.cell 2; have fz0 := hbz.frozen 0; have fz1 := hbz.frozen 1; have fz2 := hbz.frozen 2; have lz5 := hbz.lt
      simp only [List.getElem?_toArray, List.getElem?_cons_zero, List.getElem?_cons_succ] at r0 r1 r2 z0 z1 z2
      clear hbr hbz
      go_simp
      refine hK.out _ _ (fun h => nomatch (show true = false from h)) ?_
      clear hK K
      try simp only [Act.put, List.setIfInBounds_toArray, List.set_cons_zero, List.set_cons_succ]
      refine phAny_done (by kernel_rfl) ?_ _
      have HZS := LH (show w.heap.size ≠ w.heap.size + 1 + 1 from by omega)
      go_wp2
      refine bodyPost_ret (v := .tuple #[.agg #[.int .i64 0, .bool false, .slice (some ⟨g12, 0, none⟩) (ro.length + 1) c13], .bool true]) ?_ rfl ?_
      ·simp [results, Tryd.results77, go_sem, fz0, fz1, fz2, lz5, z0, z1, z2]
      ·exact begun_end HB4.out B10.out O14.out lr lz HR0.out
     exact phAll.nil
    exact phAll.nil
   exact phAll.nil
  refine phAll.cons rfl (fun K hK => ?_) ?_
  ·skip
   go_simp
   have B16 := LH (B1.out.alloc (B1.out.size) (.cells #[.bool rs] 4))
   have C17 := LH (show ((w4.drew.alloc (.cells #[] 4)).alloc (.cells #[.bool rs] 4)).cell? ⟨w4.heap.size + 1, 0, none⟩ = some (.bool rs) from alloc_cell0' (by simp) rfl)
   have O18 := LH (O2.out.alloc (.cells #[.bool rs] 4))
   refine hK.out _ _ (fun _ => HS.out _ B16.out) ?_
   clear hK K
   try simp only [Act.put, List.setIfInBounds_toArray, List.set_cons_zero, List.set_cons_succ]
   refine phAny_ready (rs := [3]) (by kernel_rfl) (by simp) ?_
   refine phAll.cons rfl (fun K hK => ?_) ?_
   ·skip
    refine OwnL.stepAppendAny rbOk O18.out (HRD.out _ B16.out) rfl _ _ rfl rfl rfl (B16.out.size) (by have := HL.out; simp; omega) (fun v21 wx20 h2 h3 h3k h5 => ?_)
    have B19 := LH (B16.out.trans h3)
    have O22 := LH (show OwnL rbS wx20 w4.heap.size v21 ro from h2)
    have C23 := LH (h3k.cellSome O18.out C17.out (by intro h; simp [Value.ownBlock] at h <;> omega))
    have NC23 := LH (show v21.ownBlock ≠ some (w4.heap.size + 1) from by rcases h5 with h5 | h5 <;> (rw [h5]; intro h; simp [Value.ownBlock] at h <;> omega))
    clear h2 h3 h3k h5
    refine hK.out _ _ (fun _ => HS.out _ B19.out) ?_
    clear hK K
    try simp only [Act.put, List.setIfInBounds_toArray, List.set_cons_zero, List.set_cons_succ]
    refine phAny_ready (rs := [7]) (by kernel_rfl) (by simp) ?_
    refine phAll.cons rfl (fun K hK => ?_) ?_
    ·skip
     refine OwnL.stepAppendG rbOk O22.out rs _ rfl _ _ rfl rfl rfl (enc1 C23.out) (B19.out.size) (by have := HL.out; omega) (fun g26 c27 wx25 h2 h3 h3k h4 h5 => ?_)
     have B24 := LH (B19.out.trans h3)
     have O28 := LH h2
     clear h2 h3 h3k h4 h5
     refine hK.out _ _ (fun _ => HS.out _ B24.out) ?_
     clear hK K
     try simp only [Act.put, List.setIfInBounds_toArray, List.set_cons_zero, List.set_cons_succ]
     refine phAny_pure (i := 8) (v := .pointer (some ⟨w.heap.size, 2, none⟩)) rfl (by kernel_rfl) (fun _ _ _ h => h) (Or.inl ⟨by rfl, fun W1 _ => by go_simp⟩) (fun _ => HS.out _ B24.out) ?_
     try simp only [Act.put, List.setIfInBounds_toArray, List.set_cons_zero, List.set_cons_succ]
     refine phAny_ready (rs := [9]) (by kernel_rfl) (by simp) ?_
     refine phAll.cons rfl (fun K hK => ?_) ?_
     ·skip
      have hbr := HBR2.out wx25 B24.out
      have hbz := HBZ2.out wx25 B24.out
      have r0 := hbr.cell 0; have r1 := hbr.cell 1; have r2 := hbr.cell 2; have fr0 := hbr.frozen 0; have fr1 := hbr.frozen 1; have fr2 := hbr.frozen 2; have lr5 := hbr.lt
      have z0 := hbz.cell 0; have z1 := hbz.cell 1; have z2 := hbz.cell 2; have fz0 := hbz.frozen 0; have fz1 := hbz.frozen 1; have fz2 := hbz.frozen 2; have lz5 := hbz.lt
      simp only [List.getElem?_toArray, List.getElem?_cons_zero, List.getElem?_cons_succ] at r0 r1 r2 z0 z1 z2
      clear hbr hbz
      go_simp
      refine hK.out _ _ (fun h => nomatch (show true = false from h)) ?_
      clear hK K
      try simp only [Act.put, List.setIfInBounds_toArray, List.set_cons_zero, List.set_cons_succ]
      refine phAny_done (by kernel_rfl) ?_ _
      have HZS := LH (show w.heap.size ≠ w.heap.size + 1 + 1 from by omega)
      go_wp2
      refine bodyPost_ret (v := .tuple #[.agg #[.int .i64 0, .bool false, .slice (some ⟨g26, 0, none⟩) (ro.length + 1) c27], .bool true]) ?_ rfl ?_
      ·simp [results, Tryd.results77, go_sem, fz0, fz1, fz2, lz5, z0, z1, z2]
      ·exact begun_end HB4.out B24.out O28.out lr lz HR0.out
     exact phAll.nil
    exact phAll.nil
   exact phAll.nil
  exact phAll.nil
 refine phAll.cons rfl (fun K hK => ?_) ?_
 ·skip
  go_simp
  have B30 := LH (B0.out.alloc (B0.out.size) (.cells #[.bool rs] 4))
  have C31 := LH (show (w4.drew.alloc (.cells #[.bool rs] 4)).cell? ⟨w4.heap.size, 0, none⟩ = some (.bool rs) from alloc_cell0' (by simp) rfl)
  refine hK.out _ _ (fun _ => HS.out _ B30.out) ?_
  clear hK K
  try simp only [Act.put, List.setIfInBounds_toArray, List.set_cons_zero, List.set_cons_succ]
  refine phAny_ready (rs := [0]) (by kernel_rfl) (by simp) ?_
  refine phAll.cons rfl (fun K hK => ?_) ?_
  ·skip
   go_simp
   have B32 := LH (B30.out.alloc (B30.out.size) (.cells #[] 4))
   have O33 := LH (OwnL.lit0' (w := (w4.drew.alloc (.cells #[.bool rs] 4))) (t := 4) (B := w4.heap.size) (b := w4.heap.size + 1) (by simp) (by have := B30.out.size; exact this) rfl)
   have C34 := LH (show ((w4.drew.alloc (.cells #[.bool rs] 4)).alloc (.cells #[] 4)).cell? ⟨w4.heap.size, 0, none⟩ = some (.bool rs) from (World.cell?_alloc_lt _ _ _ (by simp)).trans C31.out)
   refine hK.out _ _ (fun _ => HS.out _ B32.out) ?_
   clear hK K
   try simp only [Act.put, List.setIfInBounds_toArray, List.set_cons_zero, List.set_cons_succ]
   refine phAny_ready (rs := [3]) (by kernel_rfl) (by simp) ?_
   refine phAll.cons rfl (fun K hK => ?_) ?_
   ·skip
    refine OwnL.stepAppendAny rbOk O33.out (HRD.out _ B32.out) rfl _ _ rfl rfl rfl (B32.out.size) (by have := HL.out; simp; omega) (fun v37 wx36 h2 h3 h3k h5 => ?_)
    have B35 := LH (B32.out.trans h3)
    have O38 := LH (show OwnL rbS wx36 w4.heap.size v37 ro from h2)
    have C39 := LH (h3k.cellSome O33.out C34.out (by intro h; simp [Value.ownBlock] at h <;> omega))
    have NC39 := LH (show v37.ownBlock ≠ some (w4.heap.size) from by rcases h5 with h5 | h5 <;> (rw [h5]; intro h; simp [Value.ownBlock] at h <;> omega))
    clear h2 h3 h3k h5
    refine hK.out _ _ (fun _ => HS.out _ B35.out) ?_
    clear hK K
    try simp only [Act.put, List.setIfInBounds_toArray, List.set_cons_zero, List.set_cons_succ]
    refine phAny_ready (rs := [7]) (by kernel_rfl) (by simp) ?_
    refine phAll.cons rfl (fun K hK => ?_) ?_
    ·skip
     refine OwnL.stepAppendG rbOk O38.out rs _ rfl _ _ rfl rfl rfl (enc1 C39.out) (B35.out.size) (by have := HL.out; omega) (fun g42 c43 wx41 h2 h3 h3k h4 h5 => ?_)
     have B40 := LH (B35.out.trans h3)
     have O44 := LH h2
     clear h2 h3 h3k h4 h5
     refine hK.out _ _ (fun _ => HS.out _ B40.out) ?_
     clear hK K
     try simp only [Act.put, List.setIfInBounds_toArray, List.set_cons_zero, List.set_cons_succ]
     refine phAny_pure (i := 8) (v := .pointer (some ⟨w.heap.size, 2, none⟩)) rfl (by kernel_rfl) (fun _ _ _ h => h) (Or.inl ⟨by rfl, fun W1 _ => by go_simp⟩) (fun _ => HS.out _ B40.out) ?_
     try simp only [Act.put, List.setIfInBounds_toArray, List.set_cons_zero, List.set_cons_succ]
     refine phAny_ready (rs := [9]) (by kernel_rfl) (by simp) ?_
     refine phAll.cons rfl (fun K hK => ?_) ?_
     ·skip
      have hbr := HBR2.out wx41 B40.out
      have hbz := HBZ2.out wx41 B40.out
      have r0 := hbr.cell 0; have r1 := hbr.cell 1; have r2 := hbr.cell 2; have fr0 := hbr.frozen 0; have fr1 := hbr.frozen 1; have fr2 := hbr.frozen 2; have lr5 := hbr.lt
      have z0 := hbz.cell 0; have z1 := hbz.cell 1; have z2 := hbz.cell 2; have fz0 := hbz.frozen 0; have fz1 := hbz.frozen 1; have fz2 := hbz.frozen 2; have lz5 := hbz.lt
      simp only [List.getElem?_toArray, List.getElem?_cons_zero, List.getElem?_cons_succ] at r0 r1 r2 z0 z1 z2
      clear hbr hbz
      go_simp
      refine hK.out _ _ (fun h => nomatch (show true = false from h)) ?_
      clear hK K
      try simp only [Act.put, List.setIfInBounds_toArray, List.set_cons_zero, List.set_cons_succ]
      refine phAny_done (by kernel_rfl) ?_ _
      have HZS := LH (show w.heap.size ≠ w.heap.size + 1 + 1 from by omega)
      go_wp2
      refine bodyPost_ret (v := .tuple #[.agg #[.int .i64 0, .bool false, .slice (some ⟨g42, 0, none⟩) (ro.length + 1) c43], .bool true]) ?_ rfl ?_
      ·simp [results, Tryd.results77, go_sem, fz0, fz1, fz2, lz5, z0, z1, z2]
      ·exact begun_end HB4.out B40.out O44.out lr lz HR0.out
     exact phAll.nil
    exact phAll.nil
   exact phAll.nil
  exact phAll.nil
 exact phAll.nil
end Go.Proofs.YtcomdkejpaoneaaDoor
end
section
namespace Go.Proofs.YtcomdkejpaoneaaDoor
open Go.RowKit
set_option maxRecDepth 100000
set_option maxHeartbeats 4000000
set_option linter.unusedSimpArgs false
set_option linter.unusedVariables false
theorem rbegun_any (x : Value) (r : Rw) (t : Lt) (field : Bool) (w : World) (B : Nat) (v : Value) (hx : RwV w B v x r) (hl : r.open_.length ≤ 1000000000) :
  Calls Tryd.prog 77 #[x, ltVal t, .bool field] w (RwRet (rBegun r t field) v r.open_ w) := by
 by_cases h8 : t.kind = 8
 ·exact rbegun_8 x r t field w B v hx h8 hl
 ·exact rbegun_ne x r t field w B v hx h8
theorem RwRet.fwd {r : Option Rw} {B z : Nat} {w w4 w5 : World} {x u0 u1 u2 v0 : Value} {ro : List Bool} (hB : B ≤ w.heap.size) (hz : w.heap.size ≤ z) (hz4 : z < w4.heap.size) (hb4 : Below w.heap.size w w4) (hb5 : Below w4.heap.size w4 w5) (hX : RwX x) (hx : ∀ r', r = some r' → RwO w5 w4.heap.size v0 ro x r') :
  RwRet r v0 ro w (.returned (.tuple #[x, .bool r.isSome])) (((w5.setCell ⟨z, 0, none⟩ u0).setCell ⟨z, 1, none⟩ u1).setCell ⟨z, 2, none⟩ u2) := by
 refine ⟨(((hb4.trans (hb5.mono hb4.size)).setCell (p := ⟨z, 0, none⟩) hz _).setCell (p := ⟨z, 1, none⟩) hz _).setCell (p := ⟨z, 2, none⟩) hz _, x, rfl, hX, fun r' hr => ?_⟩
 obtain ⟨v, hv, h⟩ := hx r' hr
 refine ⟨v, hv, ?_⟩
 rcases h with h | h
 ·exact .inl h
 ·right
  exact (((h.far (p := ⟨z, 0, none⟩) hz4 _).far (p := ⟨z, 1, none⟩) hz4 _).far (p := ⟨z, 2, none⟩) hz4 _).more hb4.size
theorem rclause_any (x : Value) (r : Rw) (t : Lt) (w : World) (B : Nat) (v : Value) (hx : RwV w B v x r) (hl : r.open_.length ≤ 1000000000) :
  Calls Tryd.prog 76 #[x, ltVal t] w (RwRet (rClause r t) v r.open_ w) := by
 obtain ⟨k, tx, n, a, b⟩ := t
 obtain ⟨hBw, rfl, hv⟩ := hx
 obtain ⟨A, cap, rfl, hc1, hc2⟩ := hv.open_
 obtain ⟨ra, rs, ro⟩ := r
 simp only [] at hv hc1 hl
 have HV := LH hv; have HBW := LH hBw; clear hBw
 have HL := LH hl
 clear hv hl hc1 hc2
 unfold ltVal
 simp only []
 by_cases hs : k = 15 ∨ k = 16
 ·have HR := LH (show rClause ⟨ra, rs, ro⟩ ⟨k, tx, n, a, b⟩ = some ⟨1, true, ro⟩ from by unfold rClause; rw [if_pos hs])
  have hee : (k == 15) = true ∨ ((k == 15) = false ∧ (k == 16) = true) := by
   rcases hs with rfl | rfl
   ·left; rfl
   ·right; exact ⟨rfl, rfl⟩
  clear hs
  go_enter Tryd.func76, Tryd.ntmps76
  rcases hee with e15 | ⟨e15, e16⟩
  all_goals
   go_wp2
   refine bodyPost_ret (v := .tuple #[.agg #[.int .i64 1, .bool true, .slice A ro.length cap], .bool true]) ?_ rfl ?_
   ·simp [results, Tryd.results76, go_sem, World.cell?_alloc_new]
   ·exact RwRet.good (below3 _ _ _ _) HR.out rfl (RwV.of HV.out HBW.out (below3 _ _ _ _) 1 true)
 ·have HR := LH (show rClause ⟨ra, rs, ro⟩ ⟨k, tx, n, a, b⟩ = rBegun ⟨ra, false, ro⟩ ⟨k, tx, n, a, b⟩ false from by unfold rClause; rw [if_neg hs])
  have e15 : (k == 15) = false := by simpa using fun h => hs (.inl h)
  have e16 : (k == 16) = false := by simpa using fun h => hs (.inr h)
  clear hs
  have HBZ := LH (Blk.new ((w.alloc (.cells #[.int .i64 (ra : Int), .bool false, .slice A ro.length cap] 99)).alloc (.cells #[.int .i64 k, .string (str tx), .int .i64 n, .int .i64 a, .int .i64 b] 49)) 99 #[.int .i64 0, .bool false, .slice none 0 0])
  have HB3 := LH (below3 w (.cells #[.int .i64 (ra : Int), .bool false, .slice A ro.length cap] 99) (.cells #[.int .i64 k, .string (str tx), .int .i64 n, .int .i64 a, .int .i64 b] 49) (.cells #[.int .i64 0, .bool false, .slice none 0 0] 99))
  simp only [World.size_alloc] at HBZ
  go_enter Tryd.func76, Tryd.ntmps76
  go_wp2_with fail
  generalize ((w.alloc (.cells #[.int .i64 (ra : Int), .bool false, .slice A ro.length cap] 99)).alloc (.cells #[.int .i64 k, .string (str tx), .int .i64 n, .int .i64 a, .int .i64 b] 49)).alloc (.cells #[.int .i64 0, .bool false, .slice none 0 0] 99) = w3 at *
  refine (rbegun_any _ ⟨ra, false, ro⟩ ⟨k, tx, n, a, b⟩ false w3 B _ ⟨Nat.le_trans HBW.out HB3.out.size, rfl, HV.out.belowW HBW.out HB3.out⟩ HL.out).mono ?_
  rintro e w5 ⟨hb5, x2, rfl, hX, hx2⟩
  have HX := LH hX
  obtain ⟨a2, s2, A2, n2, c2, rfl⟩ := hX
  have HZ5 := LH (HBZ.out.belowW hb5)
  have HF := LH (RwRet.fwd (B := B) (z := w.heap.size + 1 + 1) (u0 := .int .i64 a2) (u1 := .bool s2) (u2 := .slice A2 n2 c2) HBW.out (by omega) HBZ.out.lt HB3.out hb5 HX.out hx2)
  have fz0 := HZ5.out.frozen 0; have fz1 := HZ5.out.frozen 1; have fz2 := HZ5.out.frozen 2; have lz := HZ5.out.lt
  have z0 := HZ5.out.cell 0; have z1 := HZ5.out.cell 1; have z2 := HZ5.out.cell 2
  simp only [List.getElem?_toArray, List.getElem?_cons_zero, List.getElem?_cons_succ] at z0 z1 z2
  clear hb5 hx2
  generalize (rBegun ⟨ra, false, ro⟩ ⟨k, tx, n, a, b⟩ false) = rr at *
  obtain ⟨bb, hbb⟩ : ∃ bb, bb = rr.isSome := ⟨_, rfl⟩
  rw [← hbb] at HF ⊢
  have HBB := LH hbb
  clear hbb
  go_wp2
  refine bodyPost_ret (v := .tuple #[.agg #[.int .i64 a2, .bool s2, .slice A2 n2 c2], .bool bb]) ?_ rfl ?_
  ·simp [results, Tryd.results76, go_sem, fz0, fz1, fz2, lz, z0, z1, z2]
  ·rw [HR.out]; exact HF.out
end Go.Proofs.YtcomdkejpaoneaaDoor
end
