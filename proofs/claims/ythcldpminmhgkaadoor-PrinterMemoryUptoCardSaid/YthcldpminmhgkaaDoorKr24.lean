/- Merged for a claim by shake.py: Jz -/
import Derived.Test.YthcldpminmhgkaaDoorKrA
import Derived.Test.YthcldpminmhgkaaDoorKr23
set_option maxRecDepth 100000
set_option maxHeartbeats 4000000
set_option linter.unusedSimpArgs false
set_option linter.unusedVariables false
section
namespace Go.Proofs.YthcldpminmhgkaaDoor
open Go.RowKit
theorem NdR.lev {w : World} {F : Nat → Prop} {y : NV} {t : Nd} (h : NdR w F y t) : levN t = levK y.kind y.n := by cases h; rfl
theorem NdR.kinds {w : World} {F : Nat → Prop} {y : NV} {t : Nd} (h : NdR w F y t) (hg : goodN t = true) : 1 ≤ y.kind ∧ y.kind ≤ 15 ∧ 0 ≤ y.n := by
 cases h with
 | @mk kind n field text lo hi so sk occ nl ks =>
  rw [goodN, Bool.and_eq_true] at hg
  show 1 ≤ kind ∧ kind ≤ 15 ∧ 0 ≤ n
  rcases own_cases hg.1 with ⟨hL, _, _, _, h9⟩ | ⟨h9, h15, _, _, _, _, h0, _⟩
  ·rcases hL with h | h | h | h | h | h | h | h <;> (obtain ⟨h1, h2⟩ := h; omega)
  ·omega
theorem nestNs_at {kind : Int} {occ : List Int} {ks : List Nd} {j : Nat} (h : j < ks.length) : nestNs kind (occ.drop j) (ks.drop j) = max (bump ks[j] (barK kind (occ.getD j 0))) (nestNs kind (occ.drop (j + 1)) (ks.drop (j + 1))) := by
 rw [List.drop_eq_getElem_cons h, nestNs_cons]
 have e1 : (occ.drop j).headD 0 = occ.getD j 0 := by rw [List.headD_eq_head?_getD, List.head?_drop, List.getD_eq_getElem?_getD]
 have e2 : (occ.drop j).tail = occ.drop (j + 1) := by rw [List.tail_drop]
 rw [e1, e2]
mutual
theorem nest_bk : ∀ t : Nd, nestN t + 1 ≤ 2 * bkN t
 | .mk kind _ _ n _ _ occ ks => by
  have := nests_bk kind occ ks
  have hd : deepK kind n ≤ 1 := by unfold deepK; split <;> omega
  rw [nestN, bkN]; omega
theorem nests_bk (kind : Int) : ∀ (occ : List Int) (l : List Nd), nestNs kind occ l ≤ 2 * bkNs l
 | occ, [] => by rw [nestNs]; exact Nat.zero_le _
 | occ, k :: ks => by
  have h1 := nest_bk k
  have h2 := nests_bk kind occ.tail ks
  have h3 := bump_le k (barK kind (occ.headD 0))
  rw [nestNs_cons, bkNs]; omega
end
def PnsRel (kind : Int) (occ : List Int) (ks : List Nd) (wb : World) (mv iv : Value) (wr : World) : Prop := ∃ j m : Nat, j ≤ ks.length ∧ iv = .int .i64 (j : Int) ∧ mv = .int .i64 (m : Int) ∧ max m (nestNs kind (occ.drop j) (ks.drop j)) = nestNs kind occ ks ∧ Below wb.heap.size wb wr
def NsRet (t : Nd) (w : World) (e : Ending) (w' : World) : Prop := e = .returned (.int .i64 (nestN t : Int)) ∧ Below w.heap.size w w'
def PnsOk (t : Nd) : Prop := ∀ (w : World) (F : Nat → Prop) (x : NV), NdR w F x t → bkN t ≤ 900000000000 → goodN t = true → AskEnv w → Calls Tryd.prog 37 #[x.val] w (NsRet t w)
theorem pnest_of (kind n : Int) (field text : List UInt8) (lo hi : Bd) (occ : List Int) (ks : List Nd) (ih : ∀ t ∈ ks, PnsOk t) : PnsOk (.mk kind field text n lo hi occ ks) := by
 intro w F x hx hbk hg hA
 obtain ⟨oa, ka, oc, kc, e, -, hO, hK⟩ := hx.open_
 rw [e]
 clear e hx x
 have hkl : ks.length ≤ 9223372036854775807 := by have h := Nat.le_trans hK.len.1 hK.len.2; unfold maxLen at h; omega
 have hol : occ.length ≤ 9223372036854775807 := by have h : occ.length ≤ maxLen := Nat.le_trans hO.2.1 hO.2.2.1; unfold maxLen at h; omega
 have HK := LH hK; have HO := LH hO
 have hb : bkNs ks ≤ 900000000000 := by rw [bkN] at hbk; omega
 have hgd := hg
 rw [goodN, Bool.and_eq_true] at hgd
 have HGK := LH (fun t (ht : t ∈ ks) => (goodNs_all _).1 hgd.2 t ht)
 have HIH := LH (fun t (ht : t ∈ ks) (W : World) (hW : Below w.heap.size w W) (y : NV) (hy : NdR W F y t) => ih t ht W F y hy (Nat.le_trans (bkNs_mem ht) hb) ((goodNs_all _).1 hgd.2 t ht) (hA.below hW))
 have HBS := LH (fun t (ht : t ∈ ks) => (show nestN t ≤ 2700000000000 from by have := nest_bk t; have := bkNs_mem ht; omega))
 have HMX := LH (show nestNs kind occ ks ≤ 2700000000000 from by have := nests_bk kind occ ks; omega)
 have HAE := LH hA
 have HOC := LH (show 0 < ks.length → 9 ≤ kind ∧ kind ≤ 15 ∧ (kind = 9 → occ.length = ks.length) from fun hp => by
  rcases own_cases hgd.1 with ⟨_, _, h0, _⟩ | ⟨h9, h15, _, _, _, _, _, _, _, h, _⟩
  ·omega
  ·exact ⟨h9, h15, fun e => (h e).1⟩)
 have HT := LH (show nestN (.mk kind field text n lo hi occ ks) = nestNs kind occ ks + deepK kind n from by rw [nestN])
 generalize hTT : nestN (.mk kind field text n lo hi occ ks) = T at *
 have HTR := LH hTT
 clear hO hK hbk hb ih hTT hg hgd hA
 have HBX := LH ((Below.refl w.heap.size w).alloc (Nat.le_refl _) (.cells #[.int .i64 kind, .string (str field), .string (str text), .int .i64 n, .bool lo.open_, .bool lo.in_, .string (str lo.text), .bool hi.open_, .bool hi.in_, .string (str hi.text), .slice oa occ.length oc, .slice ka ks.length kc] 27))
 have HBK := LH (Blk.new w 27 #[.int .i64 kind, .string (str field), .string (str text), .int .i64 n, .bool lo.open_, .bool lo.in_, .string (str lo.text), .bool hi.open_, .bool hi.in_, .string (str hi.text), .slice oa occ.length oc, .slice ka ks.length kc])
 unfold NsRet
 rw [HTR.out]
 go_enter Tryd.func37, Tryd.ntmps37
 go_wp2
 generalize hw2 : (w.alloc (.cells #[.int .i64 kind, .string (str field), .string (str text), .int .i64 n, .bool lo.open_, .bool lo.in_, .string (str lo.text), .bool hi.open_, .bool hi.in_, .string (str hi.text), .slice oa occ.length oc, .slice ka ks.length kc] 27)) = w2 at *
 have HBK2 := LH HBK.out
 clear hw2
 go_loopw [3, 10] (fun mv iv wr => PnsRel kind occ ks w2 mv iv wr) (fun _ iv _ => ks.length - (intOf iv).toNat)
 case atStart => exact ⟨0, 0, Nat.zero_le _, rfl, rfl, by rw [Nat.zero_max]; rfl, Below.refl _ _⟩
 case round =>
  obtain ⟨j, m, hj, rfl, rfl, hmx, hb⟩ := hrel
  have HBR := LH hb; have HM := LH hmx
  have HBW := LH (HBX.out.trans (hb.mono HBX.out.size))
  have hmb : m ≤ 2700000000000 := by have := HMX.out; omega
  clear hb hmx
  by_cases hlt : j < ks.length
  ·obtain ⟨a, y, rfl, ⟨hab, q0, q1, q2, q3, q4, q5, q6, q7, q8, q9, q10, q11⟩, hy⟩ := (HK.out.belowW HBW.out).kid hlt
   have hih := HIH.out ks[j] (List.getElem_mem hlt)
   have hnb := HBS.out ks[j] (List.getElem_mem hlt)
   have hgk := HGK.out ks[j] (List.getElem_mem hlt)
   have HST := LH (nestNs_at (kind := kind) (occ := occ) hlt)
   generalize ks[j] = t at *
   have hkk := hy.kinds hgk
   have HLV := LH hy.lev
   obtain ⟨kd3, fl3, tx3, xn3, ⟨la3, lb3, lc3⟩, ⟨ra3, rb3, rc3⟩, ⟨oa3, on3, oc3⟩, ⟨ka3, kn3, kc3⟩⟩ := y
   simp only [] at q0 q1 q2 q3 q4 q5 q6 q7 q8 q9 q10 q11
   simp only [] at hkk HLV
   have HBY := LH (show Below wr.heap.size wr (wr.alloc (.cells #[.int .i64 kd3, .string (str fl3), .string (str tx3), .int .i64 xn3, .bool la3, .bool lb3, .string (str lc3), .bool ra3, .bool rb3, .string (str rc3), .slice oa3 on3 oc3, .slice ka3 kn3 kc3] 27)) from (Below.refl _ _).alloc (Nat.le_refl _) _)
   have HYK := LH (Blk.new wr 27 #[.int .i64 kd3, .string (str fl3), .string (str tx3), .int .i64 xn3, .bool la3, .bool lb3, .string (str lc3), .bool ra3, .bool rb3, .string (str rc3), .slice oa3 on3 oc3, .slice ka3 kn3 kc3])
   have HC := LH (hih _ (HBW.out.trans (HBY.out.mono HBW.out.size)) _ (hy.belowW HBY.out))
   unfold NV.val at HC
   simp only [] at HC
   clear hy hih hgk
   go_wp2_with fail
   refine HC.out.mono ?_
   rintro e w6 ⟨rfl, hb6⟩
   have HB6 := LH (HBW.out.trans ((HBY.out.trans (hb6.mono HBY.out.size)).mono HBW.out.size))
   have HB6R := LH (HBR.out.trans ((HBY.out.trans (hb6.mono HBY.out.size)).mono HBR.out.size))
   have hnk := (HBK2.out.belowW HBR.out).belowW (HBY.out.trans (hb6.mono HBY.out.size))
   have hkb := HYK.out.belowW hb6
   have n0 := hnk.cell 0; have n1 := hnk.cell 1; have n2 := hnk.cell 2; have n3 := hnk.cell 3; have n4 := hnk.cell 4; have n5 := hnk.cell 5; have n6 := hnk.cell 6; have n7 := hnk.cell 7; have n8 := hnk.cell 8; have n9 := hnk.cell 9; have n10 := hnk.cell 10; have n11 := hnk.cell 11; have ln := hnk.lt
   have k0 := hkb.cell 0; have k1 := hkb.cell 1; have k2 := hkb.cell 2; have k3 := hkb.cell 3; have k4 := hkb.cell 4; have k5 := hkb.cell 5; have k6 := hkb.cell 6; have k7 := hkb.cell 7; have k8 := hkb.cell 8; have k9 := hkb.cell 9; have k10 := hkb.cell 10; have k11 := hkb.cell 11; have lk := hkb.lt
   simp only [List.getElem?_toArray, List.getElem?_cons_zero, List.getElem?_cons_succ] at n0 n1 n2 n3 n4 n5 n6 n7 n8 n9 n10 n11 k0 k1 k2 k3 k4 k5 k6 k7 k8 k9 k10 k11
   have HSF := LH (fun (W : World) (hW : Below w6.heap.size w6 W) => (show W.cell? ⟨w.heap.size, 0, none⟩ = some (.int .i64 kind) ∧ W.cell? ⟨w.heap.size, 1, none⟩ = some (.string (str field)) ∧ W.cell? ⟨w.heap.size, 2, none⟩ = some (.string (str text)) ∧ W.cell? ⟨w.heap.size, 3, none⟩ = some (.int .i64 n) ∧ W.cell? ⟨w.heap.size, 4, none⟩ = some (.bool lo.open_) ∧ W.cell? ⟨w.heap.size, 5, none⟩ = some (.bool lo.in_) ∧ W.cell? ⟨w.heap.size, 6, none⟩ = some (.string (str lo.text)) ∧ W.cell? ⟨w.heap.size, 7, none⟩ = some (.bool hi.open_) ∧ W.cell? ⟨w.heap.size, 8, none⟩ = some (.bool hi.in_) ∧ W.cell? ⟨w.heap.size, 9, none⟩ = some (.string (str hi.text)) ∧ W.cell? ⟨w.heap.size, 10, none⟩ = some (.slice oa occ.length oc) ∧ W.cell? ⟨w.heap.size, 11, none⟩ = some (.slice (some a) ks.length kc) ∧ W.cell? ⟨wr.heap.size, 0, none⟩ = some (.int .i64 kd3) ∧ W.cell? ⟨wr.heap.size, 1, none⟩ = some (.string (str fl3)) ∧ W.cell? ⟨wr.heap.size, 2, none⟩ = some (.string (str tx3)) ∧ W.cell? ⟨wr.heap.size, 3, none⟩ = some (.int .i64 xn3) ∧ W.cell? ⟨wr.heap.size, 4, none⟩ = some (.bool la3) ∧ W.cell? ⟨wr.heap.size, 5, none⟩ = some (.bool lb3) ∧ W.cell? ⟨wr.heap.size, 6, none⟩ = some (.string (str lc3)) ∧ W.cell? ⟨wr.heap.size, 7, none⟩ = some (.bool ra3) ∧ W.cell? ⟨wr.heap.size, 8, none⟩ = some (.bool rb3) ∧ W.cell? ⟨wr.heap.size, 9, none⟩ = some (.string (str rc3)) ∧ W.cell? ⟨wr.heap.size, 10, none⟩ = some (.slice oa3 on3 oc3) ∧ W.cell? ⟨wr.heap.size, 11, none⟩ = some (.slice ka3 kn3 kc3) ∧ Below w6.heap.size w6 W from ⟨(hW.cell (p := ⟨w.heap.size, 0, none⟩) ln).trans n0, (hW.cell (p := ⟨w.heap.size, 1, none⟩) ln).trans n1, (hW.cell (p := ⟨w.heap.size, 2, none⟩) ln).trans n2, (hW.cell (p := ⟨w.heap.size, 3, none⟩) ln).trans n3, (hW.cell (p := ⟨w.heap.size, 4, none⟩) ln).trans n4, (hW.cell (p := ⟨w.heap.size, 5, none⟩) ln).trans n5, (hW.cell (p := ⟨w.heap.size, 6, none⟩) ln).trans n6, (hW.cell (p := ⟨w.heap.size, 7, none⟩) ln).trans n7, (hW.cell (p := ⟨w.heap.size, 8, none⟩) ln).trans n8, (hW.cell (p := ⟨w.heap.size, 9, none⟩) ln).trans n9, (hW.cell (p := ⟨w.heap.size, 10, none⟩) ln).trans n10, (hW.cell (p := ⟨w.heap.size, 11, none⟩) ln).trans n11, (hW.cell (p := ⟨wr.heap.size, 0, none⟩) lk).trans k0, (hW.cell (p := ⟨wr.heap.size, 1, none⟩) lk).trans k1, (hW.cell (p := ⟨wr.heap.size, 2, none⟩) lk).trans k2, (hW.cell (p := ⟨wr.heap.size, 3, none⟩) lk).trans k3, (hW.cell (p := ⟨wr.heap.size, 4, none⟩) lk).trans k4, (hW.cell (p := ⟨wr.heap.size, 5, none⟩) lk).trans k5, (hW.cell (p := ⟨wr.heap.size, 6, none⟩) lk).trans k6, (hW.cell (p := ⟨wr.heap.size, 7, none⟩) lk).trans k7, (hW.cell (p := ⟨wr.heap.size, 8, none⟩) lk).trans k8, (hW.cell (p := ⟨wr.heap.size, 9, none⟩) lk).trans k9, (hW.cell (p := ⟨wr.heap.size, 10, none⟩) lk).trans k10, (hW.cell (p := ⟨wr.heap.size, 11, none⟩) lk).trans k11, hW⟩))
   have HCL := LH (fun (W : World) (hW : Below w6.heap.size w6 W) => (lvl_any hkk.1 hkk.2.1 xn3 fl3 tx3 ⟨la3, lb3, lc3⟩ ⟨ra3, rb3, rc3⟩ oa3 ka3 on3 oc3 kn3 kc3 W (HAE.out.below (HB6.out.trans (hW.mono HB6.out.size)))).mono (fun e w' h => (show e = .returned (.int .i64 (levK kd3 xn3 : Int)) ∧ Below w6.heap.size w6 w' from ⟨h.1, by rw [← h.2]; exact hW.alloc hW.size _⟩)))
   have hoc := HOC.out (by omega)
   have HCB := LH (fun (W : World) (hW : Below w6.heap.size w6 W) => (pbar_any hoc.1 hoc.2.1 n field text lo hi occ oa (some a) oc ks.length kc j W F (HAE.out.below (HB6.out.trans (hW.mono HB6.out.size))) (HO.out.belowW (HB6.out.trans (hW.mono HB6.out.size))) (fun e => by rw [hoc.2.2 e]; exact hlt)).mono (fun e w' h => (show e = .returned (.int .i64 (barK kind (occ.getD j 0) : Int)) ∧ Below w6.heap.size w6 w' from ⟨h.1, by rw [← h.2]; exact hW.alloc hW.size _⟩)))
   have HBM := LH (show bump t (barK kind (occ.getD j 0)) = nestN t + if levK kd3 xn3 < barK kind (occ.getD j 0) then 1 else 0 from by unfold bump; rw [HLV.out])
   simp only [] at HCL
   generalize levK kd3 xn3 = lv at *
   generalize barK kind (occ.getD j 0) = br at *
   generalize nestN t = d at *
   clear n0 n1 n2 n3 n4 n5 n6 n7 n8 n9 n10 n11 k0 k1 k2 k3 k4 k5 k6 k7 k8 k9 k10 k11 hb6 hnk hkb hoc hkk
   by_cases hlb : lv < br
   ·have HBE := LH (show bump t br = d + 1 from by rw [HBM.out, if_pos hlb])
    have hl2 : decide ((lv : Int) < (br : Int)) = true := decide_eq_true (by omega)
    have hl3 : decide (lv < br) = true := decide_eq_true hlb
    clear hab q0 q1 q2 q3 q4 q5 q6 q7 q8 q9 q10 q11
    by_cases hmd : m < d + 1
    ·have hm2 : (m : Int) < (d : Int) + 1 := by omega
     have hm3 : ¬ (d : Int) + 1 ≤ (m : Int) := by omega
     have HNX := LH (show max (d + 1) (nestNs kind (occ.drop (j + 1)) (ks.drop (j + 1))) = nestNs kind occ ks from by
      have h := HM.out
      rw [HST.out, HBE.out] at h
      omega)
     go_wp2_with fail
     go_region_held3 (fun W => W.cell? ⟨w.heap.size, 0, none⟩ = some (.int .i64 kind) ∧ W.cell? ⟨w.heap.size, 1, none⟩ = some (.string (str field)) ∧ W.cell? ⟨w.heap.size, 2, none⟩ = some (.string (str text)) ∧ W.cell? ⟨w.heap.size, 3, none⟩ = some (.int .i64 n) ∧ W.cell? ⟨w.heap.size, 4, none⟩ = some (.bool lo.open_) ∧ W.cell? ⟨w.heap.size, 5, none⟩ = some (.bool lo.in_) ∧ W.cell? ⟨w.heap.size, 6, none⟩ = some (.string (str lo.text)) ∧ W.cell? ⟨w.heap.size, 7, none⟩ = some (.bool hi.open_) ∧ W.cell? ⟨w.heap.size, 8, none⟩ = some (.bool hi.in_) ∧ W.cell? ⟨w.heap.size, 9, none⟩ = some (.string (str hi.text)) ∧ W.cell? ⟨w.heap.size, 10, none⟩ = some (.slice oa occ.length oc) ∧ W.cell? ⟨w.heap.size, 11, none⟩ = some (.slice (some a) ks.length kc) ∧ W.cell? ⟨wr.heap.size, 0, none⟩ = some (.int .i64 kd3) ∧ W.cell? ⟨wr.heap.size, 1, none⟩ = some (.string (str fl3)) ∧ W.cell? ⟨wr.heap.size, 2, none⟩ = some (.string (str tx3)) ∧ W.cell? ⟨wr.heap.size, 3, none⟩ = some (.int .i64 xn3) ∧ W.cell? ⟨wr.heap.size, 4, none⟩ = some (.bool la3) ∧ W.cell? ⟨wr.heap.size, 5, none⟩ = some (.bool lb3) ∧ W.cell? ⟨wr.heap.size, 6, none⟩ = some (.string (str lc3)) ∧ W.cell? ⟨wr.heap.size, 7, none⟩ = some (.bool ra3) ∧ W.cell? ⟨wr.heap.size, 8, none⟩ = some (.bool rb3) ∧ W.cell? ⟨wr.heap.size, 9, none⟩ = some (.string (str rc3)) ∧ W.cell? ⟨wr.heap.size, 10, none⟩ = some (.slice oa3 on3 oc3) ∧ W.cell? ⟨wr.heap.size, 11, none⟩ = some (.slice ka3 kn3 kc3) ∧ Below w6.heap.size w6 W) (exact HSF.out _ (by repeat (first | assumption | exact Below.refl _ _ | with_reducible refine Below.drew ?_))) ((first | ((with_reducible refine (HCL.out _ ?_).mono ?_); (repeat (first | assumption | exact Below.refl _ _ | with_reducible refine Below.drew ?_)); (rintro e w' ⟨rfl, hk1⟩)) | ((with_reducible refine (HCB.out _ ?_).mono ?_); (repeat (first | assumption | exact Below.refl _ _ | with_reducible refine Below.drew ?_)); (rintro e w' ⟨rfl, hk2⟩))))
     rename_i hfin
     have HBF := LH (show Below w2.heap.size w2 _ from HB6R.out.trans (hfin.2.2.2.2.2.2.2.2.2.2.2.2.2.2.2.2.2.2.2.2.2.2.2.2.mono HB6R.out.size))
     clear hfin
     go_wp2
     go_roundw
     case rel => exact ⟨j + 1, d + 1, hlt, by go_num, by go_num, HNX.out, HBF.out⟩
     case measure => simp [intOf]; omega
    ·have hm2 : ¬ (m : Int) < (d : Int) + 1 := by omega
     have hm3 : (d : Int) + 1 ≤ (m : Int) := by omega
     have HNX := LH (show max (m) (nestNs kind (occ.drop (j + 1)) (ks.drop (j + 1))) = nestNs kind occ ks from by
      have h := HM.out
      rw [HST.out, HBE.out] at h
      omega)
     go_wp2_with fail
     go_region_held3 (fun W => W.cell? ⟨w.heap.size, 0, none⟩ = some (.int .i64 kind) ∧ W.cell? ⟨w.heap.size, 1, none⟩ = some (.string (str field)) ∧ W.cell? ⟨w.heap.size, 2, none⟩ = some (.string (str text)) ∧ W.cell? ⟨w.heap.size, 3, none⟩ = some (.int .i64 n) ∧ W.cell? ⟨w.heap.size, 4, none⟩ = some (.bool lo.open_) ∧ W.cell? ⟨w.heap.size, 5, none⟩ = some (.bool lo.in_) ∧ W.cell? ⟨w.heap.size, 6, none⟩ = some (.string (str lo.text)) ∧ W.cell? ⟨w.heap.size, 7, none⟩ = some (.bool hi.open_) ∧ W.cell? ⟨w.heap.size, 8, none⟩ = some (.bool hi.in_) ∧ W.cell? ⟨w.heap.size, 9, none⟩ = some (.string (str hi.text)) ∧ W.cell? ⟨w.heap.size, 10, none⟩ = some (.slice oa occ.length oc) ∧ W.cell? ⟨w.heap.size, 11, none⟩ = some (.slice (some a) ks.length kc) ∧ W.cell? ⟨wr.heap.size, 0, none⟩ = some (.int .i64 kd3) ∧ W.cell? ⟨wr.heap.size, 1, none⟩ = some (.string (str fl3)) ∧ W.cell? ⟨wr.heap.size, 2, none⟩ = some (.string (str tx3)) ∧ W.cell? ⟨wr.heap.size, 3, none⟩ = some (.int .i64 xn3) ∧ W.cell? ⟨wr.heap.size, 4, none⟩ = some (.bool la3) ∧ W.cell? ⟨wr.heap.size, 5, none⟩ = some (.bool lb3) ∧ W.cell? ⟨wr.heap.size, 6, none⟩ = some (.string (str lc3)) ∧ W.cell? ⟨wr.heap.size, 7, none⟩ = some (.bool ra3) ∧ W.cell? ⟨wr.heap.size, 8, none⟩ = some (.bool rb3) ∧ W.cell? ⟨wr.heap.size, 9, none⟩ = some (.string (str rc3)) ∧ W.cell? ⟨wr.heap.size, 10, none⟩ = some (.slice oa3 on3 oc3) ∧ W.cell? ⟨wr.heap.size, 11, none⟩ = some (.slice ka3 kn3 kc3) ∧ Below w6.heap.size w6 W) (exact HSF.out _ (by repeat (first | assumption | exact Below.refl _ _ | with_reducible refine Below.drew ?_))) ((first | ((with_reducible refine (HCL.out _ ?_).mono ?_); (repeat (first | assumption | exact Below.refl _ _ | with_reducible refine Below.drew ?_)); (rintro e w' ⟨rfl, hk1⟩)) | ((with_reducible refine (HCB.out _ ?_).mono ?_); (repeat (first | assumption | exact Below.refl _ _ | with_reducible refine Below.drew ?_)); (rintro e w' ⟨rfl, hk2⟩))))
     rename_i hfin
     have HBF := LH (show Below w2.heap.size w2 _ from HB6R.out.trans (hfin.2.2.2.2.2.2.2.2.2.2.2.2.2.2.2.2.2.2.2.2.2.2.2.2.mono HB6R.out.size))
     clear hfin
     go_wp2
     go_roundw
     case rel => exact ⟨j + 1, m, hlt, by go_num, by go_num, HNX.out, HBF.out⟩
     case measure => simp [intOf]; omega
   ·have HBE := LH (show bump t br = d from by rw [HBM.out, if_neg hlb, Nat.add_zero])
    have hl2 : decide ((lv : Int) < (br : Int)) = false := decide_eq_false (by omega)
    have hl3 : decide (lv < br) = false := decide_eq_false hlb
    clear hab q0 q1 q2 q3 q4 q5 q6 q7 q8 q9 q10 q11
    by_cases hmd : m < d
    ·have hm2 : (m : Int) < (d : Int) := by omega
     have hm3 : ¬ (d : Int) ≤ (m : Int) := by omega
     have HNX := LH (show max (d) (nestNs kind (occ.drop (j + 1)) (ks.drop (j + 1))) = nestNs kind occ ks from by
      have h := HM.out
      rw [HST.out, HBE.out] at h
      omega)
     go_wp2_with fail
     go_region_held3 (fun W => W.cell? ⟨w.heap.size, 0, none⟩ = some (.int .i64 kind) ∧ W.cell? ⟨w.heap.size, 1, none⟩ = some (.string (str field)) ∧ W.cell? ⟨w.heap.size, 2, none⟩ = some (.string (str text)) ∧ W.cell? ⟨w.heap.size, 3, none⟩ = some (.int .i64 n) ∧ W.cell? ⟨w.heap.size, 4, none⟩ = some (.bool lo.open_) ∧ W.cell? ⟨w.heap.size, 5, none⟩ = some (.bool lo.in_) ∧ W.cell? ⟨w.heap.size, 6, none⟩ = some (.string (str lo.text)) ∧ W.cell? ⟨w.heap.size, 7, none⟩ = some (.bool hi.open_) ∧ W.cell? ⟨w.heap.size, 8, none⟩ = some (.bool hi.in_) ∧ W.cell? ⟨w.heap.size, 9, none⟩ = some (.string (str hi.text)) ∧ W.cell? ⟨w.heap.size, 10, none⟩ = some (.slice oa occ.length oc) ∧ W.cell? ⟨w.heap.size, 11, none⟩ = some (.slice (some a) ks.length kc) ∧ W.cell? ⟨wr.heap.size, 0, none⟩ = some (.int .i64 kd3) ∧ W.cell? ⟨wr.heap.size, 1, none⟩ = some (.string (str fl3)) ∧ W.cell? ⟨wr.heap.size, 2, none⟩ = some (.string (str tx3)) ∧ W.cell? ⟨wr.heap.size, 3, none⟩ = some (.int .i64 xn3) ∧ W.cell? ⟨wr.heap.size, 4, none⟩ = some (.bool la3) ∧ W.cell? ⟨wr.heap.size, 5, none⟩ = some (.bool lb3) ∧ W.cell? ⟨wr.heap.size, 6, none⟩ = some (.string (str lc3)) ∧ W.cell? ⟨wr.heap.size, 7, none⟩ = some (.bool ra3) ∧ W.cell? ⟨wr.heap.size, 8, none⟩ = some (.bool rb3) ∧ W.cell? ⟨wr.heap.size, 9, none⟩ = some (.string (str rc3)) ∧ W.cell? ⟨wr.heap.size, 10, none⟩ = some (.slice oa3 on3 oc3) ∧ W.cell? ⟨wr.heap.size, 11, none⟩ = some (.slice ka3 kn3 kc3) ∧ Below w6.heap.size w6 W) (exact HSF.out _ (by repeat (first | assumption | exact Below.refl _ _ | with_reducible refine Below.drew ?_))) ((first | ((with_reducible refine (HCL.out _ ?_).mono ?_); (repeat (first | assumption | exact Below.refl _ _ | with_reducible refine Below.drew ?_)); (rintro e w' ⟨rfl, hk1⟩)) | ((with_reducible refine (HCB.out _ ?_).mono ?_); (repeat (first | assumption | exact Below.refl _ _ | with_reducible refine Below.drew ?_)); (rintro e w' ⟨rfl, hk2⟩))))
     rename_i hfin
     have HBF := LH (show Below w2.heap.size w2 _ from HB6R.out.trans (hfin.2.2.2.2.2.2.2.2.2.2.2.2.2.2.2.2.2.2.2.2.2.2.2.2.mono HB6R.out.size))
     clear hfin
     go_wp2
     go_roundw
     case rel => exact ⟨j + 1, d, hlt, by go_num, by go_num, HNX.out, HBF.out⟩
     case measure => simp [intOf]; omega
    ·have hm2 : ¬ (m : Int) < (d : Int) := by omega
     have hm3 : (d : Int) ≤ (m : Int) := by omega
     have HNX := LH (show max (m) (nestNs kind (occ.drop (j + 1)) (ks.drop (j + 1))) = nestNs kind occ ks from by
      have h := HM.out
      rw [HST.out, HBE.out] at h
      omega)
     go_wp2_with fail
     go_region_held3 (fun W => W.cell? ⟨w.heap.size, 0, none⟩ = some (.int .i64 kind) ∧ W.cell? ⟨w.heap.size, 1, none⟩ = some (.string (str field)) ∧ W.cell? ⟨w.heap.size, 2, none⟩ = some (.string (str text)) ∧ W.cell? ⟨w.heap.size, 3, none⟩ = some (.int .i64 n) ∧ W.cell? ⟨w.heap.size, 4, none⟩ = some (.bool lo.open_) ∧ W.cell? ⟨w.heap.size, 5, none⟩ = some (.bool lo.in_) ∧ W.cell? ⟨w.heap.size, 6, none⟩ = some (.string (str lo.text)) ∧ W.cell? ⟨w.heap.size, 7, none⟩ = some (.bool hi.open_) ∧ W.cell? ⟨w.heap.size, 8, none⟩ = some (.bool hi.in_) ∧ W.cell? ⟨w.heap.size, 9, none⟩ = some (.string (str hi.text)) ∧ W.cell? ⟨w.heap.size, 10, none⟩ = some (.slice oa occ.length oc) ∧ W.cell? ⟨w.heap.size, 11, none⟩ = some (.slice (some a) ks.length kc) ∧ W.cell? ⟨wr.heap.size, 0, none⟩ = some (.int .i64 kd3) ∧ W.cell? ⟨wr.heap.size, 1, none⟩ = some (.string (str fl3)) ∧ W.cell? ⟨wr.heap.size, 2, none⟩ = some (.string (str tx3)) ∧ W.cell? ⟨wr.heap.size, 3, none⟩ = some (.int .i64 xn3) ∧ W.cell? ⟨wr.heap.size, 4, none⟩ = some (.bool la3) ∧ W.cell? ⟨wr.heap.size, 5, none⟩ = some (.bool lb3) ∧ W.cell? ⟨wr.heap.size, 6, none⟩ = some (.string (str lc3)) ∧ W.cell? ⟨wr.heap.size, 7, none⟩ = some (.bool ra3) ∧ W.cell? ⟨wr.heap.size, 8, none⟩ = some (.bool rb3) ∧ W.cell? ⟨wr.heap.size, 9, none⟩ = some (.string (str rc3)) ∧ W.cell? ⟨wr.heap.size, 10, none⟩ = some (.slice oa3 on3 oc3) ∧ W.cell? ⟨wr.heap.size, 11, none⟩ = some (.slice ka3 kn3 kc3) ∧ Below w6.heap.size w6 W) (exact HSF.out _ (by repeat (first | assumption | exact Below.refl _ _ | with_reducible refine Below.drew ?_))) ((first | ((with_reducible refine (HCL.out _ ?_).mono ?_); (repeat (first | assumption | exact Below.refl _ _ | with_reducible refine Below.drew ?_)); (rintro e w' ⟨rfl, hk1⟩)) | ((with_reducible refine (HCB.out _ ?_).mono ?_); (repeat (first | assumption | exact Below.refl _ _ | with_reducible refine Below.drew ?_)); (rintro e w' ⟨rfl, hk2⟩))))
     rename_i hfin
     have HBF := LH (show Below w2.heap.size w2 _ from HB6R.out.trans (hfin.2.2.2.2.2.2.2.2.2.2.2.2.2.2.2.2.2.2.2.2.2.2.2.2.mono HB6R.out.size))
     clear hfin
     go_wp2
     go_roundw
     case rel => exact ⟨j + 1, m, hlt, by go_num, by go_num, HNX.out, HBF.out⟩
     case measure => simp [intOf]; omega
  ·have HE := LH (show m = nestNs kind occ ks from by
    have h := HM.out
    rw [List.drop_eq_nil_of_le (by omega : ks.length ≤ j), nestNs, Nat.max_zero] at h
    exact h)
   have n0 := (HBK2.out.belowW HBR.out).cell 0; have n3 := (HBK2.out.belowW HBR.out).cell 3
   simp only [List.getElem?_toArray, List.getElem?_cons_zero, List.getElem?_cons_succ] at n0 n3
   by_cases hk : kind = 13 ∨ kind = 14 ∨ kind = 15 ∨ (kind = 9 ∧ 0 < n)
   ·have HD := LH (show T = m + 1 from by rw [HT.out, HE.out]; unfold deepK; rw [if_pos hk])
    rcases hk with rfl | rfl | rfl | ⟨rfl, hn⟩
    all_goals
     go_wp2
     go_ret
     exact ⟨ret_int15 (by rw [HD.out]; omega), HBW.out⟩
   ·have HD := LH (show T = m from by rw [HT.out, HE.out]; unfold deepK; rw [if_neg hk]; rfl)
    have e1 : (kind == 13) = false := by rw [beq_eq_false_iff_ne]; omega
    have e2 : (kind == 14) = false := by rw [beq_eq_false_iff_ne]; omega
    have e3 : (kind == 15) = false := by rw [beq_eq_false_iff_ne]; omega
    by_cases h9 : kind = 9
    ·subst h9
     have hn : ¬ 0 < n := fun e => hk (.inr (.inr (.inr ⟨rfl, e⟩)))
     clear hk
     go_wp2
     go_ret
     exact ⟨ret_int15 (by rw [HD.out]), HBW.out⟩
    ·have e4 : (kind == 9) = false := by rw [beq_eq_false_iff_ne]; exact h9
     clear hk h9
     go_wp2
     go_ret
     exact ⟨ret_int15 (by rw [HD.out]), HBW.out⟩
theorem pnest_any (t : Nd) : PnsOk t := nd_ind pnest_of t
end Go.Proofs.YthcldpminmhgkaaDoor
end
