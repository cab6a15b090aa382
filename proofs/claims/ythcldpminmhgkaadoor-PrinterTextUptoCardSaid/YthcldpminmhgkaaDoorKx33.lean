/- Merged for a claim by shake.py: Jz Jsh Jab -/
import Derived.Test.YthcldpminmhgkaaDoorKxA
import Derived.Lib.AppendIntMem
import Derived.Lib.ItoaMem
import Derived.Lib.LaidTab
import Derived.Shelf.LaysM
import Derived.Shelf.Strconv.AppendInt10
import Derived.Shelf.Strconv.AppendIntPublic10
import Derived.Shelf.Strconv.AppendUint10
import Derived.Shelf.Strconv.Itoa0
import Derived.Shelf.Strconv.Itoa1
import Derived.Shelf.Strconv.Itoa2
import Derived.Shelf.Strconv.Itoa3
import Derived.Test.YthcldpminmhgkaaDoorKx32
import Derived.Test.YthcldpminmhgkaaDoorProg
set_option maxRecDepth 100000
set_option maxHeartbeats 4000000
set_option linter.unusedSimpArgs false
set_option linter.unusedVariables false
section
namespace Go.Proofs.YthcldpminmhgkaaDoor
open Go.RowKit
theorem NdR.lev {w : World} {F : Nat → Prop} {y : NV} {t : Nd} (h : NdR w F y t) : levN t = levK y.kind y.n := by cases h; rfl
theorem NdR.kinds {w : World} {F : Nat → Prop} {y : NV} {t : Nd} (h : NdR w F y t) (hg : goodN t = true) : 1 ≤ y.kind ∧ y.kind ≤ 15 ∧ 0 ≤ y.n := by
 cases h with
 | @mk kind n field text lo hi so sk occ nl ks =>
  rw [goodN, Bool.and_eq_true] at hg
  show 1 ≤ kind ∧ kind ≤ 15 ∧ 0 ≤ n
  rcases own_cases hg.1 with ⟨hL, _, _, _, h9⟩ | ⟨h9, h15, _, _, _, _, h0, _⟩
  ·rcases hL with h | h | h | h | h | h | h | h <;> (obtain ⟨h1, h2⟩ := h; omega)
  ·omega
theorem nestNs_at {kind : Int} {occ : List Int} {ks : List Nd} {j : Nat} (h : j < ks.length) : nestNs kind (occ.drop j) (ks.drop j) = max (bump ks[j] (barK kind (occ.getD j 0))) (nestNs kind (occ.drop (j + 1)) (ks.drop (j + 1))) := by
 rw [List.drop_eq_getElem_cons h, nestNs_cons]
 have e1 : (occ.drop j).headD 0 = occ.getD j 0 := by rw [List.headD_eq_head?_getD, List.head?_drop, List.getD_eq_getElem?_getD]
 have e2 : (occ.drop j).tail = occ.drop (j + 1) := by rw [List.tail_drop]
 rw [e1, e2]
mutual
theorem nest_bk : ∀ t : Nd, nestN t + 1 ≤ 2 * bkN t
 | .mk kind _ _ n _ _ occ ks => by
  have := nests_bk kind occ ks
  have hd : deepK kind n ≤ 1 := by unfold deepK; split <;> omega
  rw [nestN, bkN]; omega
theorem nests_bk (kind : Int) : ∀ (occ : List Int) (l : List Nd), nestNs kind occ l ≤ 2 * bkNs l
 | occ, [] => by rw [nestNs]; exact Nat.zero_le _
 | occ, k :: ks => by
  have h1 := nest_bk k
  have h2 := nests_bk kind occ.tail ks
  have h3 := bump_le k (barK kind (occ.headD 0))
  rw [nestNs_cons, bkNs]; omega
end
def PnsRel (kind : Int) (occ : List Int) (ks : List Nd) (wb : World) (mv iv : Value) (wr : World) : Prop := ∃ j m : Nat, j ≤ ks.length ∧ iv = .int .i64 (j : Int) ∧ mv = .int .i64 (m : Int) ∧ max m (nestNs kind (occ.drop j) (ks.drop j)) = nestNs kind occ ks ∧ Below wb.heap.size wb wr
def NsRet (t : Nd) (w : World) (e : Ending) (w' : World) : Prop := e = .returned (.int .i64 (nestN t : Int)) ∧ Below w.heap.size w w'
def PnsOk (t : Nd) : Prop := ∀ (w : World) (F : Nat → Prop) (x : NV), NdR w F x t → bkN t ≤ 900000000000 → goodN t = true → AskEnv w → Calls Tryd.prog 37 #[x.val] w (NsRet t w)
theorem pnest_of (kind n : Int) (field text : List UInt8) (lo hi : Bd) (occ : List Int) (ks : List Nd) (ih : ∀ t ∈ ks, PnsOk t) : PnsOk (.mk kind field text n lo hi occ ks) := by
 intro w F x hx hbk hg hA
 obtain ⟨oa, ka, oc, kc, e, -, hO, hK⟩ := hx.open_
 rw [e]
 clear e hx x
 have hkl : ks.length ≤ 9223372036854775807 := by have h := Nat.le_trans hK.len.1 hK.len.2; unfold maxLen at h; omega
 have hol : occ.length ≤ 9223372036854775807 := by have h : occ.length ≤ maxLen := Nat.le_trans hO.2.1 hO.2.2.1; unfold maxLen at h; omega
 have HK := LH hK; have HO := LH hO
 have hb : bkNs ks ≤ 900000000000 := by rw [bkN] at hbk; omega
 have hgd := hg
 rw [goodN, Bool.and_eq_true] at hgd
 have HGK := LH (fun t (ht : t ∈ ks) => (goodNs_all _).1 hgd.2 t ht)
 have HIH := LH (fun t (ht : t ∈ ks) (W : World) (hW : Below w.heap.size w W) (y : NV) (hy : NdR W F y t) => ih t ht W F y hy (Nat.le_trans (bkNs_mem ht) hb) ((goodNs_all _).1 hgd.2 t ht) (hA.below hW))
 have HBS := LH (fun t (ht : t ∈ ks) => (show nestN t ≤ 2700000000000 from by have := nest_bk t; have := bkNs_mem ht; omega))
 have HMX := LH (show nestNs kind occ ks ≤ 2700000000000 from by have := nests_bk kind occ ks; omega)
 have HAE := LH hA
 have HOC := LH (show 0 < ks.length → 9 ≤ kind ∧ kind ≤ 15 ∧ (kind = 9 → occ.length = ks.length) from fun hp => by
  rcases own_cases hgd.1 with ⟨_, _, h0, _⟩ | ⟨h9, h15, _, _, _, _, _, _, _, h, _⟩
  ·omega
  ·exact ⟨h9, h15, fun e => (h e).1⟩)
 have HT := LH (show nestN (.mk kind field text n lo hi occ ks) = nestNs kind occ ks + deepK kind n from by rw [nestN])
 generalize hTT : nestN (.mk kind field text n lo hi occ ks) = T at *
 have HTR := LH hTT
 clear hO hK hbk hb ih hTT hg hgd hA
 have HBX := LH ((Below.refl w.heap.size w).alloc (Nat.le_refl _) (.cells #[.int .i64 kind, .string (str field), .string (str text), .int .i64 n, .bool lo.open_, .bool lo.in_, .string (str lo.text), .bool hi.open_, .bool hi.in_, .string (str hi.text), .slice oa occ.length oc, .slice ka ks.length kc] 27))
 have HBK := LH (Blk.new w 27 #[.int .i64 kind, .string (str field), .string (str text), .int .i64 n, .bool lo.open_, .bool lo.in_, .string (str lo.text), .bool hi.open_, .bool hi.in_, .string (str hi.text), .slice oa occ.length oc, .slice ka ks.length kc])
 unfold NsRet
 rw [HTR.out]
 go_enter Tryd.func37, Tryd.ntmps37
 go_wp2
 generalize hw2 : (w.alloc (.cells #[.int .i64 kind, .string (str field), .string (str text), .int .i64 n, .bool lo.open_, .bool lo.in_, .string (str lo.text), .bool hi.open_, .bool hi.in_, .string (str hi.text), .slice oa occ.length oc, .slice ka ks.length kc] 27)) = w2 at *
 have HBK2 := LH HBK.out
 clear hw2
 go_loopw [3, 10] (fun mv iv wr => PnsRel kind occ ks w2 mv iv wr) (fun _ iv _ => ks.length - (intOf iv).toNat)
 case atStart => exact ⟨0, 0, Nat.zero_le _, rfl, rfl, by rw [Nat.zero_max]; rfl, Below.refl _ _⟩
 case round =>
  obtain ⟨j, m, hj, rfl, rfl, hmx, hb⟩ := hrel
  have HBR := LH hb; have HM := LH hmx
  have HBW := LH (HBX.out.trans (hb.mono HBX.out.size))
  have hmb : m ≤ 2700000000000 := by have := HMX.out; omega
  clear hb hmx
  by_cases hlt : j < ks.length
  ·obtain ⟨a, y, rfl, ⟨hab, q0, q1, q2, q3, q4, q5, q6, q7, q8, q9, q10, q11⟩, hy⟩ := (HK.out.belowW HBW.out).kid hlt
   have hih := HIH.out ks[j] (List.getElem_mem hlt)
   have hnb := HBS.out ks[j] (List.getElem_mem hlt)
   have hgk := HGK.out ks[j] (List.getElem_mem hlt)
   have HST := LH (nestNs_at (kind := kind) (occ := occ) hlt)
   generalize ks[j] = t at *
   have hkk := hy.kinds hgk
   have HLV := LH hy.lev
   obtain ⟨kd3, fl3, tx3, xn3, ⟨la3, lb3, lc3⟩, ⟨ra3, rb3, rc3⟩, ⟨oa3, on3, oc3⟩, ⟨ka3, kn3, kc3⟩⟩ := y
   simp only [] at q0 q1 q2 q3 q4 q5 q6 q7 q8 q9 q10 q11
   simp only [] at hkk HLV
   have HBY := LH (show Below wr.heap.size wr (wr.alloc (.cells #[.int .i64 kd3, .string (str fl3), .string (str tx3), .int .i64 xn3, .bool la3, .bool lb3, .string (str lc3), .bool ra3, .bool rb3, .string (str rc3), .slice oa3 on3 oc3, .slice ka3 kn3 kc3] 27)) from (Below.refl _ _).alloc (Nat.le_refl _) _)
   have HYK := LH (Blk.new wr 27 #[.int .i64 kd3, .string (str fl3), .string (str tx3), .int .i64 xn3, .bool la3, .bool lb3, .string (str lc3), .bool ra3, .bool rb3, .string (str rc3), .slice oa3 on3 oc3, .slice ka3 kn3 kc3])
   have HC := LH (hih _ (HBW.out.trans (HBY.out.mono HBW.out.size)) _ (hy.belowW HBY.out))
   unfold NV.val at HC
   simp only [] at HC
   clear hy hih hgk
   go_wp2_with fail
   refine HC.out.mono ?_
   rintro e w6 ⟨rfl, hb6⟩
   have HB6 := LH (HBW.out.trans ((HBY.out.trans (hb6.mono HBY.out.size)).mono HBW.out.size))
   have HB6R := LH (HBR.out.trans ((HBY.out.trans (hb6.mono HBY.out.size)).mono HBR.out.size))
   have hnk := (HBK2.out.belowW HBR.out).belowW (HBY.out.trans (hb6.mono HBY.out.size))
   have hkb := HYK.out.belowW hb6
   have n0 := hnk.cell 0; have n1 := hnk.cell 1; have n2 := hnk.cell 2; have n3 := hnk.cell 3; have n4 := hnk.cell 4; have n5 := hnk.cell 5; have n6 := hnk.cell 6; have n7 := hnk.cell 7; have n8 := hnk.cell 8; have n9 := hnk.cell 9; have n10 := hnk.cell 10; have n11 := hnk.cell 11; have ln := hnk.lt
   have k0 := hkb.cell 0; have k1 := hkb.cell 1; have k2 := hkb.cell 2; have k3 := hkb.cell 3; have k4 := hkb.cell 4; have k5 := hkb.cell 5; have k6 := hkb.cell 6; have k7 := hkb.cell 7; have k8 := hkb.cell 8; have k9 := hkb.cell 9; have k10 := hkb.cell 10; have k11 := hkb.cell 11; have lk := hkb.lt
   simp only [List.getElem?_toArray, List.getElem?_cons_zero, List.getElem?_cons_succ] at n0 n1 n2 n3 n4 n5 n6 n7 n8 n9 n10 n11 k0 k1 k2 k3 k4 k5 k6 k7 k8 k9 k10 k11
   have HSF := LH (fun (W : World) (hW : Below w6.heap.size w6 W) => (show W.cell? ⟨w.heap.size, 0, none⟩ = some (.int .i64 kind) ∧ W.cell? ⟨w.heap.size, 1, none⟩ = some (.string (str field)) ∧ W.cell? ⟨w.heap.size, 2, none⟩ = some (.string (str text)) ∧ W.cell? ⟨w.heap.size, 3, none⟩ = some (.int .i64 n) ∧ W.cell? ⟨w.heap.size, 4, none⟩ = some (.bool lo.open_) ∧ W.cell? ⟨w.heap.size, 5, none⟩ = some (.bool lo.in_) ∧ W.cell? ⟨w.heap.size, 6, none⟩ = some (.string (str lo.text)) ∧ W.cell? ⟨w.heap.size, 7, none⟩ = some (.bool hi.open_) ∧ W.cell? ⟨w.heap.size, 8, none⟩ = some (.bool hi.in_) ∧ W.cell? ⟨w.heap.size, 9, none⟩ = some (.string (str hi.text)) ∧ W.cell? ⟨w.heap.size, 10, none⟩ = some (.slice oa occ.length oc) ∧ W.cell? ⟨w.heap.size, 11, none⟩ = some (.slice (some a) ks.length kc) ∧ W.cell? ⟨wr.heap.size, 0, none⟩ = some (.int .i64 kd3) ∧ W.cell? ⟨wr.heap.size, 1, none⟩ = some (.string (str fl3)) ∧ W.cell? ⟨wr.heap.size, 2, none⟩ = some (.string (str tx3)) ∧ W.cell? ⟨wr.heap.size, 3, none⟩ = some (.int .i64 xn3) ∧ W.cell? ⟨wr.heap.size, 4, none⟩ = some (.bool la3) ∧ W.cell? ⟨wr.heap.size, 5, none⟩ = some (.bool lb3) ∧ W.cell? ⟨wr.heap.size, 6, none⟩ = some (.string (str lc3)) ∧ W.cell? ⟨wr.heap.size, 7, none⟩ = some (.bool ra3) ∧ W.cell? ⟨wr.heap.size, 8, none⟩ = some (.bool rb3) ∧ W.cell? ⟨wr.heap.size, 9, none⟩ = some (.string (str rc3)) ∧ W.cell? ⟨wr.heap.size, 10, none⟩ = some (.slice oa3 on3 oc3) ∧ W.cell? ⟨wr.heap.size, 11, none⟩ = some (.slice ka3 kn3 kc3) ∧ Below w6.heap.size w6 W from ⟨(hW.cell (p := ⟨w.heap.size, 0, none⟩) ln).trans n0, (hW.cell (p := ⟨w.heap.size, 1, none⟩) ln).trans n1, (hW.cell (p := ⟨w.heap.size, 2, none⟩) ln).trans n2, (hW.cell (p := ⟨w.heap.size, 3, none⟩) ln).trans n3, (hW.cell (p := ⟨w.heap.size, 4, none⟩) ln).trans n4, (hW.cell (p := ⟨w.heap.size, 5, none⟩) ln).trans n5, (hW.cell (p := ⟨w.heap.size, 6, none⟩) ln).trans n6, (hW.cell (p := ⟨w.heap.size, 7, none⟩) ln).trans n7, (hW.cell (p := ⟨w.heap.size, 8, none⟩) ln).trans n8, (hW.cell (p := ⟨w.heap.size, 9, none⟩) ln).trans n9, (hW.cell (p := ⟨w.heap.size, 10, none⟩) ln).trans n10, (hW.cell (p := ⟨w.heap.size, 11, none⟩) ln).trans n11, (hW.cell (p := ⟨wr.heap.size, 0, none⟩) lk).trans k0, (hW.cell (p := ⟨wr.heap.size, 1, none⟩) lk).trans k1, (hW.cell (p := ⟨wr.heap.size, 2, none⟩) lk).trans k2, (hW.cell (p := ⟨wr.heap.size, 3, none⟩) lk).trans k3, (hW.cell (p := ⟨wr.heap.size, 4, none⟩) lk).trans k4, (hW.cell (p := ⟨wr.heap.size, 5, none⟩) lk).trans k5, (hW.cell (p := ⟨wr.heap.size, 6, none⟩) lk).trans k6, (hW.cell (p := ⟨wr.heap.size, 7, none⟩) lk).trans k7, (hW.cell (p := ⟨wr.heap.size, 8, none⟩) lk).trans k8, (hW.cell (p := ⟨wr.heap.size, 9, none⟩) lk).trans k9, (hW.cell (p := ⟨wr.heap.size, 10, none⟩) lk).trans k10, (hW.cell (p := ⟨wr.heap.size, 11, none⟩) lk).trans k11, hW⟩))
   have HCL := LH (fun (W : World) (hW : Below w6.heap.size w6 W) => (lvl_any hkk.1 hkk.2.1 xn3 fl3 tx3 ⟨la3, lb3, lc3⟩ ⟨ra3, rb3, rc3⟩ oa3 ka3 on3 oc3 kn3 kc3 W (HAE.out.below (HB6.out.trans (hW.mono HB6.out.size)))).mono (fun e w' h => (show e = .returned (.int .i64 (levK kd3 xn3 : Int)) ∧ Below w6.heap.size w6 w' from ⟨h.1, by rw [← h.2]; exact hW.alloc hW.size _⟩)))
   have hoc := HOC.out (by omega)
   have HCB := LH (fun (W : World) (hW : Below w6.heap.size w6 W) => (pbar_any hoc.1 hoc.2.1 n field text lo hi occ oa (some a) oc ks.length kc j W F (HAE.out.below (HB6.out.trans (hW.mono HB6.out.size))) (HO.out.belowW (HB6.out.trans (hW.mono HB6.out.size))) (fun e => by rw [hoc.2.2 e]; exact hlt)).mono (fun e w' h => (show e = .returned (.int .i64 (barK kind (occ.getD j 0) : Int)) ∧ Below w6.heap.size w6 w' from ⟨h.1, by rw [← h.2]; exact hW.alloc hW.size _⟩)))
   have HBM := LH (show bump t (barK kind (occ.getD j 0)) = nestN t + if levK kd3 xn3 < barK kind (occ.getD j 0) then 1 else 0 from by unfold bump; rw [HLV.out])
   simp only [] at HCL
   generalize levK kd3 xn3 = lv at *
   generalize barK kind (occ.getD j 0) = br at *
   generalize nestN t = d at *
   clear n0 n1 n2 n3 n4 n5 n6 n7 n8 n9 n10 n11 k0 k1 k2 k3 k4 k5 k6 k7 k8 k9 k10 k11 hb6 hnk hkb hoc hkk
   by_cases hlb : lv < br
   ·have HBE := LH (show bump t br = d + 1 from by rw [HBM.out, if_pos hlb])
    have hl2 : decide ((lv : Int) < (br : Int)) = true := decide_eq_true (by omega)
    have hl3 : decide (lv < br) = true := decide_eq_true hlb
    clear hab q0 q1 q2 q3 q4 q5 q6 q7 q8 q9 q10 q11
    by_cases hmd : m < d + 1
    ·have hm2 : (m : Int) < (d : Int) + 1 := by omega
     have hm3 : ¬ (d : Int) + 1 ≤ (m : Int) := by omega
     have HNX := LH (show max (d + 1) (nestNs kind (occ.drop (j + 1)) (ks.drop (j + 1))) = nestNs kind occ ks from by
      have h := HM.out
      rw [HST.out, HBE.out] at h
      omega)
     go_wp2_with fail
     go_region_held3 (fun W => W.cell? ⟨w.heap.size, 0, none⟩ = some (.int .i64 kind) ∧ W.cell? ⟨w.heap.size, 1, none⟩ = some (.string (str field)) ∧ W.cell? ⟨w.heap.size, 2, none⟩ = some (.string (str text)) ∧ W.cell? ⟨w.heap.size, 3, none⟩ = some (.int .i64 n) ∧ W.cell? ⟨w.heap.size, 4, none⟩ = some (.bool lo.open_) ∧ W.cell? ⟨w.heap.size, 5, none⟩ = some (.bool lo.in_) ∧ W.cell? ⟨w.heap.size, 6, none⟩ = some (.string (str lo.text)) ∧ W.cell? ⟨w.heap.size, 7, none⟩ = some (.bool hi.open_) ∧ W.cell? ⟨w.heap.size, 8, none⟩ = some (.bool hi.in_) ∧ W.cell? ⟨w.heap.size, 9, none⟩ = some (.string (str hi.text)) ∧ W.cell? ⟨w.heap.size, 10, none⟩ = some (.slice oa occ.length oc) ∧ W.cell? ⟨w.heap.size, 11, none⟩ = some (.slice (some a) ks.length kc) ∧ W.cell? ⟨wr.heap.size, 0, none⟩ = some (.int .i64 kd3) ∧ W.cell? ⟨wr.heap.size, 1, none⟩ = some (.string (str fl3)) ∧ W.cell? ⟨wr.heap.size, 2, none⟩ = some (.string (str tx3)) ∧ W.cell? ⟨wr.heap.size, 3, none⟩ = some (.int .i64 xn3) ∧ W.cell? ⟨wr.heap.size, 4, none⟩ = some (.bool la3) ∧ W.cell? ⟨wr.heap.size, 5, none⟩ = some (.bool lb3) ∧ W.cell? ⟨wr.heap.size, 6, none⟩ = some (.string (str lc3)) ∧ W.cell? ⟨wr.heap.size, 7, none⟩ = some (.bool ra3) ∧ W.cell? ⟨wr.heap.size, 8, none⟩ = some (.bool rb3) ∧ W.cell? ⟨wr.heap.size, 9, none⟩ = some (.string (str rc3)) ∧ W.cell? ⟨wr.heap.size, 10, none⟩ = some (.slice oa3 on3 oc3) ∧ W.cell? ⟨wr.heap.size, 11, none⟩ = some (.slice ka3 kn3 kc3) ∧ Below w6.heap.size w6 W) (exact HSF.out _ (by repeat (first | assumption | exact Below.refl _ _ | with_reducible refine Below.drew ?_))) ((first | ((with_reducible refine (HCL.out _ ?_).mono ?_); (repeat (first | assumption | exact Below.refl _ _ | with_reducible refine Below.drew ?_)); (rintro e w' ⟨rfl, hk1⟩)) | ((with_reducible refine (HCB.out _ ?_).mono ?_); (repeat (first | assumption | exact Below.refl _ _ | with_reducible refine Below.drew ?_)); (rintro e w' ⟨rfl, hk2⟩))))
     rename_i hfin
     have HBF := LH (show Below w2.heap.size w2 _ from HB6R.out.trans (hfin.2.2.2.2.2.2.2.2.2.2.2.2.2.2.2.2.2.2.2.2.2.2.2.2.mono HB6R.out.size))
     clear hfin
     go_wp2
     go_roundw
     case rel => exact ⟨j + 1, d + 1, hlt, by go_num, by go_num, HNX.out, HBF.out⟩
     case measure => simp [intOf]; omega
    ·have hm2 : ¬ (m : Int) < (d : Int) + 1 := by omega
     have hm3 : (d : Int) + 1 ≤ (m : Int) := by omega
     have HNX := LH (show max (m) (nestNs kind (occ.drop (j + 1)) (ks.drop (j + 1))) = nestNs kind occ ks from by
      have h := HM.out
      rw [HST.out, HBE.out] at h
      omega)
     go_wp2_with fail
     go_region_held3 (fun W => W.cell? ⟨w.heap.size, 0, none⟩ = some (.int .i64 kind) ∧ W.cell? ⟨w.heap.size, 1, none⟩ = some (.string (str field)) ∧ W.cell? ⟨w.heap.size, 2, none⟩ = some (.string (str text)) ∧ W.cell? ⟨w.heap.size, 3, none⟩ = some (.int .i64 n) ∧ W.cell? ⟨w.heap.size, 4, none⟩ = some (.bool lo.open_) ∧ W.cell? ⟨w.heap.size, 5, none⟩ = some (.bool lo.in_) ∧ W.cell? ⟨w.heap.size, 6, none⟩ = some (.string (str lo.text)) ∧ W.cell? ⟨w.heap.size, 7, none⟩ = some (.bool hi.open_) ∧ W.cell? ⟨w.heap.size, 8, none⟩ = some (.bool hi.in_) ∧ W.cell? ⟨w.heap.size, 9, none⟩ = some (.string (str hi.text)) ∧ W.cell? ⟨w.heap.size, 10, none⟩ = some (.slice oa occ.length oc) ∧ W.cell? ⟨w.heap.size, 11, none⟩ = some (.slice (some a) ks.length kc) ∧ W.cell? ⟨wr.heap.size, 0, none⟩ = some (.int .i64 kd3) ∧ W.cell? ⟨wr.heap.size, 1, none⟩ = some (.string (str fl3)) ∧ W.cell? ⟨wr.heap.size, 2, none⟩ = some (.string (str tx3)) ∧ W.cell? ⟨wr.heap.size, 3, none⟩ = some (.int .i64 xn3) ∧ W.cell? ⟨wr.heap.size, 4, none⟩ = some (.bool la3) ∧ W.cell? ⟨wr.heap.size, 5, none⟩ = some (.bool lb3) ∧ W.cell? ⟨wr.heap.size, 6, none⟩ = some (.string (str lc3)) ∧ W.cell? ⟨wr.heap.size, 7, none⟩ = some (.bool ra3) ∧ W.cell? ⟨wr.heap.size, 8, none⟩ = some (.bool rb3) ∧ W.cell? ⟨wr.heap.size, 9, none⟩ = some (.string (str rc3)) ∧ W.cell? ⟨wr.heap.size, 10, none⟩ = some (.slice oa3 on3 oc3) ∧ W.cell? ⟨wr.heap.size, 11, none⟩ = some (.slice ka3 kn3 kc3) ∧ Below w6.heap.size w6 W) (exact HSF.out _ (by repeat (first | assumption | exact Below.refl _ _ | with_reducible refine Below.drew ?_))) ((first | ((with_reducible refine (HCL.out _ ?_).mono ?_); (repeat (first | assumption | exact Below.refl _ _ | with_reducible refine Below.drew ?_)); (rintro e w' ⟨rfl, hk1⟩)) | ((with_reducible refine (HCB.out _ ?_).mono ?_); (repeat (first | assumption | exact Below.refl _ _ | with_reducible refine Below.drew ?_)); (rintro e w' ⟨rfl, hk2⟩))))
     rename_i hfin
     have HBF := LH (show Below w2.heap.size w2 _ from HB6R.out.trans (hfin.2.2.2.2.2.2.2.2.2.2.2.2.2.2.2.2.2.2.2.2.2.2.2.2.mono HB6R.out.size))
     clear hfin
     go_wp2
     go_roundw
     case rel => exact ⟨j + 1, m, hlt, by go_num, by go_num, HNX.out, HBF.out⟩
     case measure => simp [intOf]; omega
   ·have HBE := LH (show bump t br = d from by rw [HBM.out, if_neg hlb, Nat.add_zero])
    have hl2 : decide ((lv : Int) < (br : Int)) = false := decide_eq_false (by omega)
    have hl3 : decide (lv < br) = false := decide_eq_false hlb
    clear hab q0 q1 q2 q3 q4 q5 q6 q7 q8 q9 q10 q11
    by_cases hmd : m < d
    ·have hm2 : (m : Int) < (d : Int) := by omega
     have hm3 : ¬ (d : Int) ≤ (m : Int) := by omega
     have HNX := LH (show max (d) (nestNs kind (occ.drop (j + 1)) (ks.drop (j + 1))) = nestNs kind occ ks from by
      have h := HM.out
      rw [HST.out, HBE.out] at h
      omega)
     go_wp2_with fail
     go_region_held3 (fun W => W.cell? ⟨w.heap.size, 0, none⟩ = some (.int .i64 kind) ∧ W.cell? ⟨w.heap.size, 1, none⟩ = some (.string (str field)) ∧ W.cell? ⟨w.heap.size, 2, none⟩ = some (.string (str text)) ∧ W.cell? ⟨w.heap.size, 3, none⟩ = some (.int .i64 n) ∧ W.cell? ⟨w.heap.size, 4, none⟩ = some (.bool lo.open_) ∧ W.cell? ⟨w.heap.size, 5, none⟩ = some (.bool lo.in_) ∧ W.cell? ⟨w.heap.size, 6, none⟩ = some (.string (str lo.text)) ∧ W.cell? ⟨w.heap.size, 7, none⟩ = some (.bool hi.open_) ∧ W.cell? ⟨w.heap.size, 8, none⟩ = some (.bool hi.in_) ∧ W.cell? ⟨w.heap.size, 9, none⟩ = some (.string (str hi.text)) ∧ W.cell? ⟨w.heap.size, 10, none⟩ = some (.slice oa occ.length oc) ∧ W.cell? ⟨w.heap.size, 11, none⟩ = some (.slice (some a) ks.length kc) ∧ W.cell? ⟨wr.heap.size, 0, none⟩ = some (.int .i64 kd3) ∧ W.cell? ⟨wr.heap.size, 1, none⟩ = some (.string (str fl3)) ∧ W.cell? ⟨wr.heap.size, 2, none⟩ = some (.string (str tx3)) ∧ W.cell? ⟨wr.heap.size, 3, none⟩ = some (.int .i64 xn3) ∧ W.cell? ⟨wr.heap.size, 4, none⟩ = some (.bool la3) ∧ W.cell? ⟨wr.heap.size, 5, none⟩ = some (.bool lb3) ∧ W.cell? ⟨wr.heap.size, 6, none⟩ = some (.string (str lc3)) ∧ W.cell? ⟨wr.heap.size, 7, none⟩ = some (.bool ra3) ∧ W.cell? ⟨wr.heap.size, 8, none⟩ = some (.bool rb3) ∧ W.cell? ⟨wr.heap.size, 9, none⟩ = some (.string (str rc3)) ∧ W.cell? ⟨wr.heap.size, 10, none⟩ = some (.slice oa3 on3 oc3) ∧ W.cell? ⟨wr.heap.size, 11, none⟩ = some (.slice ka3 kn3 kc3) ∧ Below w6.heap.size w6 W) (exact HSF.out _ (by repeat (first | assumption | exact Below.refl _ _ | with_reducible refine Below.drew ?_))) ((first | ((with_reducible refine (HCL.out _ ?_).mono ?_); (repeat (first | assumption | exact Below.refl _ _ | with_reducible refine Below.drew ?_)); (rintro e w' ⟨rfl, hk1⟩)) | ((with_reducible refine (HCB.out _ ?_).mono ?_); (repeat (first | assumption | exact Below.refl _ _ | with_reducible refine Below.drew ?_)); (rintro e w' ⟨rfl, hk2⟩))))
     rename_i hfin
     have HBF := LH (show Below w2.heap.size w2 _ from HB6R.out.trans (hfin.2.2.2.2.2.2.2.2.2.2.2.2.2.2.2.2.2.2.2.2.2.2.2.2.mono HB6R.out.size))
     clear hfin
     go_wp2
     go_roundw
     case rel => exact ⟨j + 1, d, hlt, by go_num, by go_num, HNX.out, HBF.out⟩
     case measure => simp [intOf]; omega
    ·have hm2 : ¬ (m : Int) < (d : Int) := by omega
     have hm3 : (d : Int) ≤ (m : Int) := by omega
     have HNX := LH (show max (m) (nestNs kind (occ.drop (j + 1)) (ks.drop (j + 1))) = nestNs kind occ ks from by
      have h := HM.out
      rw [HST.out, HBE.out] at h
      omega)
     go_wp2_with fail
     go_region_held3 (fun W => W.cell? ⟨w.heap.size, 0, none⟩ = some (.int .i64 kind) ∧ W.cell? ⟨w.heap.size, 1, none⟩ = some (.string (str field)) ∧ W.cell? ⟨w.heap.size, 2, none⟩ = some (.string (str text)) ∧ W.cell? ⟨w.heap.size, 3, none⟩ = some (.int .i64 n) ∧ W.cell? ⟨w.heap.size, 4, none⟩ = some (.bool lo.open_) ∧ W.cell? ⟨w.heap.size, 5, none⟩ = some (.bool lo.in_) ∧ W.cell? ⟨w.heap.size, 6, none⟩ = some (.string (str lo.text)) ∧ W.cell? ⟨w.heap.size, 7, none⟩ = some (.bool hi.open_) ∧ W.cell? ⟨w.heap.size, 8, none⟩ = some (.bool hi.in_) ∧ W.cell? ⟨w.heap.size, 9, none⟩ = some (.string (str hi.text)) ∧ W.cell? ⟨w.heap.size, 10, none⟩ = some (.slice oa occ.length oc) ∧ W.cell? ⟨w.heap.size, 11, none⟩ = some (.slice (some a) ks.length kc) ∧ W.cell? ⟨wr.heap.size, 0, none⟩ = some (.int .i64 kd3) ∧ W.cell? ⟨wr.heap.size, 1, none⟩ = some (.string (str fl3)) ∧ W.cell? ⟨wr.heap.size, 2, none⟩ = some (.string (str tx3)) ∧ W.cell? ⟨wr.heap.size, 3, none⟩ = some (.int .i64 xn3) ∧ W.cell? ⟨wr.heap.size, 4, none⟩ = some (.bool la3) ∧ W.cell? ⟨wr.heap.size, 5, none⟩ = some (.bool lb3) ∧ W.cell? ⟨wr.heap.size, 6, none⟩ = some (.string (str lc3)) ∧ W.cell? ⟨wr.heap.size, 7, none⟩ = some (.bool ra3) ∧ W.cell? ⟨wr.heap.size, 8, none⟩ = some (.bool rb3) ∧ W.cell? ⟨wr.heap.size, 9, none⟩ = some (.string (str rc3)) ∧ W.cell? ⟨wr.heap.size, 10, none⟩ = some (.slice oa3 on3 oc3) ∧ W.cell? ⟨wr.heap.size, 11, none⟩ = some (.slice ka3 kn3 kc3) ∧ Below w6.heap.size w6 W) (exact HSF.out _ (by repeat (first | assumption | exact Below.refl _ _ | with_reducible refine Below.drew ?_))) ((first | ((with_reducible refine (HCL.out _ ?_).mono ?_); (repeat (first | assumption | exact Below.refl _ _ | with_reducible refine Below.drew ?_)); (rintro e w' ⟨rfl, hk1⟩)) | ((with_reducible refine (HCB.out _ ?_).mono ?_); (repeat (first | assumption | exact Below.refl _ _ | with_reducible refine Below.drew ?_)); (rintro e w' ⟨rfl, hk2⟩))))
     rename_i hfin
     have HBF := LH (show Below w2.heap.size w2 _ from HB6R.out.trans (hfin.2.2.2.2.2.2.2.2.2.2.2.2.2.2.2.2.2.2.2.2.2.2.2.2.mono HB6R.out.size))
     clear hfin
     go_wp2
     go_roundw
     case rel => exact ⟨j + 1, m, hlt, by go_num, by go_num, HNX.out, HBF.out⟩
     case measure => simp [intOf]; omega
  ·have HE := LH (show m = nestNs kind occ ks from by
    have h := HM.out
    rw [List.drop_eq_nil_of_le (by omega : ks.length ≤ j), nestNs, Nat.max_zero] at h
    exact h)
   have n0 := (HBK2.out.belowW HBR.out).cell 0; have n3 := (HBK2.out.belowW HBR.out).cell 3
   simp only [List.getElem?_toArray, List.getElem?_cons_zero, List.getElem?_cons_succ] at n0 n3
   by_cases hk : kind = 13 ∨ kind = 14 ∨ kind = 15 ∨ (kind = 9 ∧ 0 < n)
   ·have HD := LH (show T = m + 1 from by rw [HT.out, HE.out]; unfold deepK; rw [if_pos hk])
    rcases hk with rfl | rfl | rfl | ⟨rfl, hn⟩
    all_goals
     go_wp2
     go_ret
     exact ⟨ret_int15 (by rw [HD.out]; omega), HBW.out⟩
   ·have HD := LH (show T = m from by rw [HT.out, HE.out]; unfold deepK; rw [if_neg hk]; rfl)
    have e1 : (kind == 13) = false := by rw [beq_eq_false_iff_ne]; omega
    have e2 : (kind == 14) = false := by rw [beq_eq_false_iff_ne]; omega
    have e3 : (kind == 15) = false := by rw [beq_eq_false_iff_ne]; omega
    by_cases h9 : kind = 9
    ·subst h9
     have hn : ¬ 0 < n := fun e => hk (.inr (.inr (.inr ⟨rfl, e⟩)))
     clear hk
     go_wp2
     go_ret
     exact ⟨ret_int15 (by rw [HD.out]), HBW.out⟩
    ·have e4 : (kind == 9) = false := by rw [beq_eq_false_iff_ne]; exact h9
     clear hk h9
     go_wp2
     go_ret
     exact ⟨ret_int15 (by rw [HD.out]), HBW.out⟩
theorem pnest_any (t : Nd) : PnsOk t := nd_ind pnest_of t
end Go.Proofs.YthcldpminmhgkaaDoor
end
section
namespace Go.Proofs.YthcldpminmhgkaaDoor
open Go.Shelf
def Tryd.laysM171_ren : Go.Shelf.Ren := ⟨fun | 171 => 79 | 243 => 97 | 246 => 110 | 283 => 106 | 284 => 107 | 285 => 108 | 286 => 109 | 129 => 119 | 317 => 118 | 318 => 120 | 319 => 121 | 320 => 122 | 337 => 125 | 338 => 126 | n => n, fun | 3 => 3 | 9 => 9 | 2 => 2 | 4 => 4 | 171 => 119 | 0 => 0 | 53 => 99 | 37 => 64 | 5 => 5 | 173 => 122 | 212 => 137 | 51 => 138 | 20 => 20 | 213 => 139 | 46 => 41 | 232 => 142 | 233 => 143 | n => n, fun | 17 => 26 | 18 => 27 | 19 => 28 | n => n⟩
theorem Tryd.laysM171 : Go.Proofs.LaysM.n171 Tryd.prog Tryd.laysM171_ren := {
 mixed := by kernel_rfl
 f129 := Tryd.func119.trans (congrArg some (by kernel_rfl))
 f171 := Tryd.func79.trans (congrArg some (by kernel_rfl))
 f243 := Tryd.func97.trans (congrArg some (by kernel_rfl))
 f246 := Tryd.func110.trans (congrArg some (by kernel_rfl))
 f283 := Tryd.func106.trans (congrArg some (by kernel_rfl))
 f284 := Tryd.func107.trans (congrArg some (by kernel_rfl))
 f285 := Tryd.func108.trans (congrArg some (by kernel_rfl))
 f286 := Tryd.func109.trans (congrArg some (by kernel_rfl))
 f317 := Tryd.func118.trans (congrArg some (by kernel_rfl))
 f318 := Tryd.func120.trans (congrArg some (by kernel_rfl))
 f319 := Tryd.func121.trans (congrArg some (by kernel_rfl))
 f320 := Tryd.func122.trans (congrArg some (by kernel_rfl))
 f337 := Tryd.func125.trans (congrArg some (by kernel_rfl))
 f338 := Tryd.func126.trans (congrArg some (by kernel_rfl))
 t0 := Tryd.underlying0
 a0 := Tryd.isAgg0
 z0 := Tryd.sizeOf0
 v0 := Tryd.zeroValue0
 t2 := Tryd.underlying2
 a2 := Tryd.isAgg2
 z2 := Tryd.sizeOf2
 v2 := Tryd.zeroValue2
 t3 := Tryd.underlying3
 a3 := Tryd.isAgg3
 z3 := Tryd.sizeOf3
 v3 := Tryd.zeroValue3
 t4 := Tryd.underlying4
 a4 := Tryd.isAgg4
 z4 := Tryd.sizeOf4
 v4 := Tryd.zeroValue4
 t5 := Tryd.underlying5
 a5 := Tryd.isAgg5
 z5 := Tryd.sizeOf5
 v5 := Tryd.zeroValue5
 t9 := Tryd.underlying9
 a9 := Tryd.isAgg9
 z9 := Tryd.sizeOf9
 v9 := Tryd.zeroValue9
 t20 := Tryd.underlying20
 a20 := Tryd.isAgg20
 z20 := Tryd.sizeOf20
 v20 := Tryd.zeroValue20
 t37 := Tryd.underlying64
 a37 := Tryd.isAgg64
 z37 := Tryd.sizeOf64
 v37 := Tryd.zeroValue64
 t46 := Tryd.underlying41
 a46 := Tryd.isAgg41
 z46 := Tryd.sizeOf41
 v46 := Tryd.zeroValue41
 t51 := Tryd.underlying138
 a51 := Tryd.isAgg138
 z51 := Tryd.sizeOf138
 v51 := Tryd.zeroValue138
 t53 := Tryd.underlying99
 a53 := Tryd.isAgg99
 z53 := Tryd.sizeOf99
 v53 := Tryd.zeroValue99
 t171 := Tryd.underlying119
 a171 := Tryd.isAgg119
 z171 := Tryd.sizeOf119
 v171 := Tryd.zeroValue119
 t173 := Tryd.underlying122
 a173 := Tryd.isAgg122
 z173 := Tryd.sizeOf122
 v173 := Tryd.zeroValue122
 t212 := Tryd.underlying137
 a212 := Tryd.isAgg137
 z212 := Tryd.sizeOf137
 v212 := Tryd.zeroValue137
 t213 := Tryd.underlying139
 a213 := Tryd.isAgg139
 z213 := Tryd.sizeOf139
 t232 := Tryd.underlying142
 a232 := Tryd.isAgg142
 z232 := Tryd.sizeOf142
 v232 := Tryd.zeroValue142
 t233 := Tryd.underlying143
 a233 := Tryd.isAgg143
 z233 := Tryd.sizeOf143
 v233 := Tryd.zeroValue143
 g17 := by kernel_rfl
 g18 := by kernel_rfl
 g19 := by kernel_rfl
 i0 := by kernel_rfl
 i2 := by kernel_rfl
 i3 := by kernel_rfl
 i4 := by kernel_rfl
 i5 := by kernel_rfl
 i9 := by kernel_rfl
 i20 := by kernel_rfl
 i37 := by kernel_rfl
 i46 := by kernel_rfl
 i51 := by kernel_rfl
 i53 := by kernel_rfl
 i171 := by kernel_rfl
 i173 := by kernel_rfl
 i212 := by kernel_rfl
 i232 := by kernel_rfl
 i233 := by kernel_rfl
 m17 := by kernel_rfl
 m18 := by kernel_rfl
 m19 := by kernel_rfl }
open Go.RowKit Go.Sort Go.Lib in
theorem Tryd.strconv_Itoa (n : Int) (h0 : -9223372036854775808 ≤ n) (h1 : n ≤ 9223372036854775807) (w : World) (htab : Lib.TabIs Tryd.prog w "internal/strconv.uint64pow10" .u64 Lib.pow10Tab) :
  Calls Tryd.prog 79 #[.int .i64 n] w fun e w' => e = .returned (.string ⟨(Lib.itoa n).toArray⟩) ∧ ∃ k os, w' = grow (w.drewN k) os := Any.strconv_Itoa Tryd.laysM171 n h0 h1 w htab
def Tryd.laysM176_ren : Go.Shelf.Ren := ⟨fun | 176 => 56 | 249 => 75 | 288 => 96 | 283 => 106 | 284 => 107 | 285 => 108 | 286 => 109 | 129 => 119 | 317 => 118 | 318 => 120 | 319 => 121 | 320 => 122 | 337 => 125 | 338 => 126 | n => n, fun | 37 => 64 | 2 => 2 | 3 => 3 | 53 => 99 | 4 => 4 | 9 => 9 | 171 => 119 | 0 => 0 | 173 => 122 | 212 => 137 | 51 => 138 | 5 => 5 | 20 => 20 | 213 => 139 | 46 => 41 | 232 => 142 | 233 => 143 | n => n, fun | 17 => 26 | 18 => 27 | 19 => 28 | n => n⟩
theorem Tryd.laysM176 : Go.Proofs.LaysM.n176 Tryd.prog Tryd.laysM176_ren := {
 mixed := by kernel_rfl
 f129 := Tryd.func119.trans (congrArg some (by kernel_rfl))
 f176 := Tryd.func56.trans (congrArg some (by kernel_rfl))
 f249 := Tryd.func75.trans (congrArg some (by kernel_rfl))
 f283 := Tryd.func106.trans (congrArg some (by kernel_rfl))
 f284 := Tryd.func107.trans (congrArg some (by kernel_rfl))
 f285 := Tryd.func108.trans (congrArg some (by kernel_rfl))
 f286 := Tryd.func109.trans (congrArg some (by kernel_rfl))
 f288 := Tryd.func96.trans (congrArg some (by kernel_rfl))
 f317 := Tryd.func118.trans (congrArg some (by kernel_rfl))
 f318 := Tryd.func120.trans (congrArg some (by kernel_rfl))
 f319 := Tryd.func121.trans (congrArg some (by kernel_rfl))
 f320 := Tryd.func122.trans (congrArg some (by kernel_rfl))
 f337 := Tryd.func125.trans (congrArg some (by kernel_rfl))
 f338 := Tryd.func126.trans (congrArg some (by kernel_rfl))
 t0 := Tryd.underlying0
 a0 := Tryd.isAgg0
 z0 := Tryd.sizeOf0
 v0 := Tryd.zeroValue0
 t2 := Tryd.underlying2
 a2 := Tryd.isAgg2
 z2 := Tryd.sizeOf2
 v2 := Tryd.zeroValue2
 t3 := Tryd.underlying3
 a3 := Tryd.isAgg3
 z3 := Tryd.sizeOf3
 v3 := Tryd.zeroValue3
 t4 := Tryd.underlying4
 a4 := Tryd.isAgg4
 z4 := Tryd.sizeOf4
 v4 := Tryd.zeroValue4
 t5 := Tryd.underlying5
 a5 := Tryd.isAgg5
 z5 := Tryd.sizeOf5
 v5 := Tryd.zeroValue5
 t9 := Tryd.underlying9
 a9 := Tryd.isAgg9
 z9 := Tryd.sizeOf9
 v9 := Tryd.zeroValue9
 t20 := Tryd.underlying20
 a20 := Tryd.isAgg20
 z20 := Tryd.sizeOf20
 v20 := Tryd.zeroValue20
 t37 := Tryd.underlying64
 a37 := Tryd.isAgg64
 z37 := Tryd.sizeOf64
 v37 := Tryd.zeroValue64
 t46 := Tryd.underlying41
 a46 := Tryd.isAgg41
 z46 := Tryd.sizeOf41
 v46 := Tryd.zeroValue41
 t51 := Tryd.underlying138
 a51 := Tryd.isAgg138
 z51 := Tryd.sizeOf138
 v51 := Tryd.zeroValue138
 t53 := Tryd.underlying99
 a53 := Tryd.isAgg99
 z53 := Tryd.sizeOf99
 v53 := Tryd.zeroValue99
 t171 := Tryd.underlying119
 a171 := Tryd.isAgg119
 z171 := Tryd.sizeOf119
 v171 := Tryd.zeroValue119
 t173 := Tryd.underlying122
 a173 := Tryd.isAgg122
 z173 := Tryd.sizeOf122
 v173 := Tryd.zeroValue122
 t212 := Tryd.underlying137
 a212 := Tryd.isAgg137
 z212 := Tryd.sizeOf137
 v212 := Tryd.zeroValue137
 t213 := Tryd.underlying139
 a213 := Tryd.isAgg139
 z213 := Tryd.sizeOf139
 t232 := Tryd.underlying142
 a232 := Tryd.isAgg142
 z232 := Tryd.sizeOf142
 v232 := Tryd.zeroValue142
 t233 := Tryd.underlying143
 a233 := Tryd.isAgg143
 z233 := Tryd.sizeOf143
 v233 := Tryd.zeroValue143
 g17 := by kernel_rfl
 g18 := by kernel_rfl
 g19 := by kernel_rfl
 i0 := by kernel_rfl
 i2 := by kernel_rfl
 i3 := by kernel_rfl
 i4 := by kernel_rfl
 i5 := by kernel_rfl
 i9 := by kernel_rfl
 i20 := by kernel_rfl
 i37 := by kernel_rfl
 i46 := by kernel_rfl
 i51 := by kernel_rfl
 i53 := by kernel_rfl
 i171 := by kernel_rfl
 i173 := by kernel_rfl
 i212 := by kernel_rfl
 i232 := by kernel_rfl
 i233 := by kernel_rfl
 m17 := by kernel_rfl
 m18 := by kernel_rfl
 m19 := by kernel_rfl }
open Go.RowKit Go.Sort Go.Lib in
theorem Tryd.strconv_AppendInt_10 (B n : Nat) (i : Int) (h0 : -9223372036854775808 ≤ i) (h1 : i ≤ 9223372036854775807) (sv : Value) (xs : List Value) (w : World) (hown : w.ownsRow B 5 1 sv n xs) (hBw : B ≤ w.heap.size) (hlim : n + 21 ≤ 140737488355328) (htab : Lib.TabBelow Tryd.prog B w "internal/strconv.uint64pow10" .u64 Lib.pow10Tab) :
  Calls Tryd.prog 56 #[sv, .int .i64 i, .int .i64 10] w fun e w' => ∃ v', e = .returned v' ∧ w'.ownsRow B 5 1 v' (n + (Lib.itoa i).length) (xs ++ Lib.byteCells (Lib.itoa i)) ∧ Below B w w' ∧ Lib.OthersKept 5 none w w' := Any.strconv_AppendInt_10 Tryd.laysM176 B n i h0 h1 sv xs w hown hBw hlim htab
end Go.Proofs.YthcldpminmhgkaaDoor
end
section
namespace Go.Proofs.YthcldpminmhgkaaDoor
open Go.Shelf Go.RowKit Go.Sort Go.Lib
def P10 (w : World) : Prop := Lib.TabIs Tryd.prog w "internal/strconv.uint64pow10" .u64 Lib.pow10Tab
theorem gP10x : Tryd.prog.globalNamed "internal/strconv.uint64pow10" = some 26 := by kernel_rfl
theorem P10.lt {w : World} (h : P10 w) : 26 < w.heap.size := by
 unfold P10 Lib.TabIs World.var? at h
 rw [gP10x] at h
 rcases Nat.lt_or_ge 26 w.heap.size with hl | hl
 ·exact hl
 ·simp [Array.getElem?_eq_none hl] at h
theorem P10.belowB {w w' : World} {B : Nat} (h : P10 w) (hB : 26 < B) (hb : Below B w w') : P10 w' := by
 unfold P10 Lib.TabIs World.var? at *
 rw [gP10x] at h ⊢
 have e := hb.block 26 hB
 simpa [e] using h
theorem P10.below {w w' : World} (h : P10 w) (hb : Below w.heap.size w w') : P10 w' := h.belowB h.lt hb
theorem gP10xType : (Tryd.prog.globals[26]?).map (·.type) = some 137 := by kernel_rfl
theorem p10_of_head {W : World} {rest : List (String × DataW Unit)} (h : laidMet Tryd.prog (("internal/strconv.uint64pow10", Lib.tabData .u64 Lib.pow10Tab) :: rest) W) : P10 W :=
 Lib.tabIs_of_head gP10x gP10xType Tryd.underlying137 Tryd.underlying99 (by kernel_rfl) (by kernel_rfl) h
theorem grow_belowx (w : World) (k : Nat) (os : Array Obj) : Below w.heap.size w (grow (w.drewN k) os) :=
 ⟨rfl, rfl, rfl, by show w.heap.size ≤ (w.heap ++ os).size; rw [Array.size_append]; omega, fun i hi => by
  show ((w.drewN k).heap ++ os)[i]? = _
  rw [Array.getElem?_append_left (by show i < w.heap.size; omega)]; rfl⟩
theorem itoa_any (n : Nat) (hn : n < 9223372036854775808) (w : World) (hP : P10 w) :
  Calls Tryd.prog 79 #[.int .i64 (n : Int)] w fun e w' => e = .returned (.string (str (decN n))) ∧ Below w.heap.size w w' := by
 refine (Tryd.strconv_Itoa (n : Int) (by omega) (by omega) w hP).mono ?_
 rintro e w' ⟨rfl, k, os, rfl⟩
 exact ⟨by rw [Lib.itoa_nonneg]; rfl, grow_belowx w k os⟩
theorem litL_length (l : List UInt8) : (litL l).length ≤ 2 * l.length := by
 unfold litL
 induction l with
 | nil => simp
 | cons c l ih =>
  rw [List.flatMap_cons, List.length_append, List.length_cons]
  have : (pesc c).length ≤ 2 := by unfold pesc; split <;> simp
  omega
theorem litL_take {l : List UInt8} {k : Nat} (h : k < l.length) : litL (l.take (k + 1)) = litL (l.take k) ++ pesc l[k] := by
 unfold litL
 rw [List.take_succ_eq_append_getElem h, List.flatMap_append, List.flatMap_singleton]
def LtRel (s : ByteArray) (w : World) (vo iv : Value) (wr : World) : Prop := ∃ k : Nat, k ≤ s.size ∧ iv = .int .i64 (k : Int) ∧ OwnB wr w.heap.size vo (litL (s.data.toList.take k)) ∧ Below w.heap.size w wr
theorem pesc_cases (c : UInt8) : (((c.toNat : Int) == 42) = true ∧ pesc c = [92, c]) ∨ (((c.toNat : Int) == 42) = false ∧ ((c.toNat : Int) == 63) = true ∧ pesc c = [92, c]) ∨ (((c.toNat : Int) == 42) = false ∧ ((c.toNat : Int) == 63) = false ∧ ((c.toNat : Int) == 92) = true ∧ pesc c = [92, c]) ∨ (((c.toNat : Int) == 42) = false ∧ ((c.toNat : Int) == 63) = false ∧ ((c.toNat : Int) == 92) = false ∧ pesc c = [c]) := by
 rw [show ((c.toNat : Int) == 42) = decide (c = 42) from (byte_lit (c := c) (k := 42) (by decide)).1, show ((c.toNat : Int) == 63) = decide (c = 63) from (byte_lit (c := c) (k := 63) (by decide)).1, show ((c.toNat : Int) == 92) = decide (c = 92) from (byte_lit (c := c) (k := 92) (by decide)).1]
 unfold pesc
 by_cases h1 : c = 42 <;> by_cases h2 : c = 63 <;> by_cases h3 : c = 92 <;> simp [h1, h2, h3]
theorem literal_any (s : ByteArray) (w : World) (hs : s.size ≤ 900000000000) :
  Calls Tryd.prog 81 #[.string s] w (StrRet (str (litL s.data.toList)) w) := by
 go_enter Tryd.func81, Tryd.ntmps81
 go_wp2
 go_loopw [3, 4] (fun v i wr => LtRel s w v i wr) (fun _ i _ => s.size - (RowKit.intOf i).toNat)
 case atStart => exact ⟨0, by omega, rfl, OwnB.lit0 w (Nat.le_refl _), (Below.refl _ _).alloc (Nat.le_refl _) _⟩
 case round =>
  obtain ⟨k, hk, rfl, hob, hb⟩ := hrel
  have HB := LH hob; clear hob
  have hBr := hb.size
  have hll : (litL (s.data.toList.take k)).length ≤ 1800000000000 := by
   have h1 := litL_length (s.data.toList.take k)
   have h2 := List.length_take_le k s.data.toList
   omega
  by_cases hlt : k < s.size
  ·have hbx := u8_lt s[k]
   have hkl : k < s.data.toList.length := by rw [← ba_size]; exact hlt
   have HT := LH (show litL (s.data.toList.take (k + 1)) = litL (s.data.toList.take k) ++ pesc s[k] from litL_take hkl)
   rcases pesc_cases s[k] with ⟨g1, g2⟩ | ⟨g1, g3, g2⟩ | ⟨g1, g3, g4, g2⟩ | ⟨g1, g3, g4, g2⟩
   ·have HX := LH g2; clear g2
    go_wp2_with (at_builtin; refine OwnB.appendAt HB.out _ _ rfl _ _ rfl rfl rfl ?_ ?_ ?_ hBr ?_ ?_)
    all_goals first | omega | exact (World.size_alloc ..).symm | skip
    intro v' w' h2 h3 h3k
    have H2 := LH h2; clear h2 h3k
    have hbB := hb.trans h3
    go_wp2_with (at_builtin; refine OwnB.appendAt H2.out _ _ rfl _ _ rfl rfl rfl ?_ ?_ ?_ hbB.size ?_ ?_)
    all_goals first | omega | exact (World.size_alloc ..).symm | (rw [List.length_append, List.length_singleton]; omega) | skip
    intro v2 w2 h4 h5 h5k
    have H4 := LH h4
    clear h4 h5k
    go_wp2
    go_roundw
    case rel =>
     refine ⟨k + 1, by omega, by go_num, ?_, hbB.trans h5⟩
     rw [HT.out, HX.out]
     simpa [ofNat_byte] using H4.out
    case measure => simp [RowKit.intOf]; omega
   ·have HX := LH g2; clear g2
    go_wp2_with (at_builtin; refine OwnB.appendAt HB.out _ _ rfl _ _ rfl rfl rfl ?_ ?_ ?_ hBr ?_ ?_)
    all_goals first | omega | exact (World.size_alloc ..).symm | skip
    intro v' w' h2 h3 h3k
    have H2 := LH h2; clear h2 h3k
    have hbB := hb.trans h3
    go_wp2_with (at_builtin; refine OwnB.appendAt H2.out _ _ rfl _ _ rfl rfl rfl ?_ ?_ ?_ hbB.size ?_ ?_)
    all_goals first | omega | exact (World.size_alloc ..).symm | (rw [List.length_append, List.length_singleton]; omega) | skip
    intro v2 w2 h4 h5 h5k
    have H4 := LH h4
    clear h4 h5k
    go_wp2
    go_roundw
    case rel =>
     refine ⟨k + 1, by omega, by go_num, ?_, hbB.trans h5⟩
     rw [HT.out, HX.out]
     simpa [ofNat_byte] using H4.out
    case measure => simp [RowKit.intOf]; omega
   ·have HX := LH g2; clear g2
    go_wp2_with (at_builtin; refine OwnB.appendAt HB.out _ _ rfl _ _ rfl rfl rfl ?_ ?_ ?_ hBr ?_ ?_)
    all_goals first | omega | exact (World.size_alloc ..).symm | skip
    intro v' w' h2 h3 h3k
    have H2 := LH h2; clear h2 h3k
    have hbB := hb.trans h3
    go_wp2_with (at_builtin; refine OwnB.appendAt H2.out _ _ rfl _ _ rfl rfl rfl ?_ ?_ ?_ hbB.size ?_ ?_)
    all_goals first | omega | exact (World.size_alloc ..).symm | (rw [List.length_append, List.length_singleton]; omega) | skip
    intro v2 w2 h4 h5 h5k
    have H4 := LH h4
    clear h4 h5k
    go_wp2
    go_roundw
    case rel =>
     refine ⟨k + 1, by omega, by go_num, ?_, hbB.trans h5⟩
     rw [HT.out, HX.out]
     simpa [ofNat_byte] using H4.out
    case measure => simp [RowKit.intOf]; omega
   ·have HX := LH g2; clear g2
    go_wp2_with (at_builtin; refine OwnB.appendAt HB.out _ _ rfl _ _ rfl rfl rfl ?_ ?_ ?_ hBr ?_ ?_)
    all_goals first | omega | exact (World.size_alloc ..).symm | skip
    intro v2 w2 h4 h5 h5k
    have H4 := LH h4
    clear h4 h5k
    go_wp2
    go_roundw
    case rel =>
     refine ⟨k + 1, by omega, by go_num, ?_, hb.trans h5⟩
     rw [HT.out, HX.out]
     simpa [ofNat_byte] using H4.out
    case measure => simp [RowKit.intOf]; omega
  ·have HE := LH (show litL s.data.toList = litL (s.data.toList.take k) from by rw [List.take_of_length_le (by rw [← ba_size]; omega)])
   have HC := LH (OwnB.conv HB.out)
   go_wp2_with fail
   simp only [HC.out, Result.andThen]
   go_wp2
   go_ret
   exact ⟨by rw [HE.out]; rfl, hb⟩
end Go.Proofs.YthcldpminmhgkaaDoor
end
