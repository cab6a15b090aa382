/- Merged for a claim by shake.py: Jaa Jsh Jab -/
import Derived.Test.YthcldpminmhgkaaDoorKrA
import Derived.Lib.AppendIntMem
import Derived.Lib.ItoaMem
import Derived.Lib.LaidTab
import Derived.Shelf.LaysM
import Derived.Shelf.Strconv.AppendInt10
import Derived.Shelf.Strconv.AppendIntPublic10
import Derived.Shelf.Strconv.AppendUint10
import Derived.Shelf.Strconv.Itoa0
import Derived.Shelf.Strconv.Itoa1
import Derived.Shelf.Strconv.Itoa2
import Derived.Shelf.Strconv.Itoa3
import Derived.Test.YthcldpminmhgkaaDoorKr24
import Derived.Test.YthcldpminmhgkaaDoorProg
set_option maxRecDepth 100000
set_option maxHeartbeats 4000000
set_option linter.unusedSimpArgs false
set_option linter.unusedVariables false
section
namespace Go.Proofs.YthcldpminmhgkaaDoor
open Go.RowKit
def RnsOk (t : Nd) : Prop := ∀ (w : World) (F : Nat → Prop) (x : NV) (m : Nat), NdR w F x t → bkN t ≤ 900000000000 → goodN t = true → AskEnv w → m ≤ 10 → Calls Tryd.prog 48 #[x.val, .int .i64 (m : Int)] w fun e w' => e = .returned (.int .i64 (bump t m : Int)) ∧ Below w.heap.size w w'
theorem barK_le (kind o : Int) : barK kind o ≤ 10 := by unfold barK; repeat (first | omega | split)
theorem rnest_of (kind n : Int) (field text : List UInt8) (lo hi : Bd) (occ : List Int) (ks : List Nd) (ih : ∀ t ∈ ks, RnsOk t) : RnsOk (.mk kind field text n lo hi occ ks) := by
 intro w F x mm hx hbk hg hA hmm
 have hkk0 := hx.kinds hg
 obtain ⟨oa, ka, oc, kc, e, hxe, hO, hK⟩ := hx.open_
 rw [e]
 subst hxe; simp only [] at hkk0; clear e hx
 have hkl : ks.length ≤ 9223372036854775807 := by have h := Nat.le_trans hK.len.1 hK.len.2; unfold maxLen at h; omega
 have hol : occ.length ≤ 9223372036854775807 := by have h : occ.length ≤ maxLen := Nat.le_trans hO.2.1 hO.2.2.1; unfold maxLen at h; omega
 have HK := LH hK; have HO := LH hO
 have hb : bkNs ks ≤ 900000000000 := by rw [bkN] at hbk; omega
 have hgd := hg
 rw [goodN, Bool.and_eq_true] at hgd
 have HGK := LH (fun t (ht : t ∈ ks) => (goodNs_all _).1 hgd.2 t ht)
 have HIH := LH (fun t (ht : t ∈ ks) (W : World) (hW : Below w.heap.size w W) (y : NV) (m : Nat) (hm : m ≤ 10) (hy : NdR W F y t) => ih t ht W F y m hy (Nat.le_trans (bkNs_mem ht) hb) ((goodNs_all _).1 hgd.2 t ht) (hA.below hW) hm)
 have HMX := LH (show nestNs kind occ ks ≤ 2700000000000 from by have := nests_bk kind occ ks; omega)
 have HAE := LH hA
 have HOC := LH (show 0 < ks.length → 9 ≤ kind ∧ kind ≤ 15 ∧ (kind = 9 → occ.length = ks.length) from fun hp => by
  rcases own_cases hgd.1 with ⟨_, _, h0, _⟩ | ⟨h9, h15, _, _, _, _, _, _, _, h, _⟩
  ·omega
  ·exact ⟨h9, h15, fun e => (h e).1⟩)
 have HT := LH (show bump (.mk kind field text n lo hi occ ks) mm = nestNs kind occ ks + deepK kind n + if levK kind n < mm then 1 else 0 from by unfold bump; rw [nestN]; rfl)
 have HKD := LH hkk0
 generalize hTT : bump (.mk kind field text n lo hi occ ks) mm = T at *
 clear hO hK hbk hb ih hTT hg hgd hA
 have HBX := LH ((Below.refl w.heap.size w).alloc (Nat.le_refl _) (.cells #[.int .i64 kind, .string (str field), .string (str text), .int .i64 n, .bool lo.open_, .bool lo.in_, .string (str lo.text), .bool hi.open_, .bool hi.in_, .string (str hi.text), .slice oa occ.length oc, .slice ka ks.length kc] 27))
 have HBK := LH (Blk.new w 27 #[.int .i64 kind, .string (str field), .string (str text), .int .i64 n, .bool lo.open_, .bool lo.in_, .string (str lo.text), .bool hi.open_, .bool hi.in_, .string (str hi.text), .slice oa occ.length oc, .slice ka ks.length kc])
 have HLC := LH (fun (W : World) => rlv_any kind n field text lo hi oa ka occ.length oc ks.length kc W hkk0.2.2)
 generalize hlv : levK kind n = lv at *
 clear hlv hkk0
 go_enter Tryd.func48, Tryd.ntmps48
 go_wp2
 generalize hw2 : (w.alloc (.cells #[.int .i64 kind, .string (str field), .string (str text), .int .i64 n, .bool lo.open_, .bool lo.in_, .string (str lo.text), .bool hi.open_, .bool hi.in_, .string (str hi.text), .slice oa occ.length oc, .slice ka ks.length kc] 27)) = w2 at *
 have HBK2 := LH HBK.out
 clear hw2
 go_loopw [5, 6] (fun mv iv wr => PnsRel kind occ ks w2 mv iv wr) (fun _ iv _ => ks.length - (intOf iv).toNat)
 case atStart => exact ⟨0, 0, Nat.zero_le _, rfl, rfl, by rw [Nat.zero_max]; rfl, Below.refl _ _⟩
 case round =>
  obtain ⟨j, m, hj, rfl, rfl, hmx, hb⟩ := hrel
  have HBR := LH hb; have HM := LH hmx
  have HBW := LH (HBX.out.trans (hb.mono HBX.out.size))
  have hmb : m ≤ 2700000000000 := by have := HMX.out; omega
  have hnk := HBK2.out.belowW hb
  obtain ⟨n0, n1, n2, n3, n4, n5, n6, n7, n8, n9, n10, n11, -, -, -, -, -, -, -, -, -, -, -, -, ln⟩ := blk12 hnk
  clear hb hmx hnk
  by_cases hlt : j < ks.length
  ·obtain ⟨a, y, rfl, ⟨hab, q0, q1, q2, q3, q4, q5, q6, q7, q8, q9, q10, q11⟩, hy⟩ := (HK.out.belowW HBW.out).kid hlt
   have hih := HIH.out ks[j] (List.getElem_mem hlt)
   have HST := LH (nestNs_at (kind := kind) (occ := occ) hlt)
   have hnb : bump ks[j] (barK kind (occ.getD j 0)) ≤ 2700000000000 := by
    have h1 := nests_bk kind (occ.drop j) (ks.drop j)
    have h2 := HM.out
    have h3 := HMX.out
    have h4 := HST.out
    omega
   generalize ks[j] = t at *
   obtain ⟨kd3, fl3, tx3, xn3, ⟨la3, lb3, lc3⟩, ⟨ra3, rb3, rc3⟩, ⟨oa3, on3, oc3⟩, ⟨ka3, kn3, kc3⟩⟩ := y
   simp only [] at q0 q1 q2 q3 q4 q5 q6 q7 q8 q9 q10 q11
   have hoc := HOC.out (by omega)
   have HCB := LH (fun (W : World) (hW : Below wr.heap.size wr W) => (rat_any hoc.1 hoc.2.1 n field text lo hi occ oa (some a) oc ks.length kc j W F (HAE.out.below (HBW.out.trans (hW.mono HBW.out.size))) (HO.out.belowW (HBW.out.trans (hW.mono HBW.out.size))) (fun e => by rw [hoc.2.2 e]; exact hlt)).mono (fun e w' h => (show e = .returned (.int .i64 (barK kind (occ.getD j 0) : Int)) ∧ Below wr.heap.size wr w' from ⟨h.1, by rw [← h.2]; exact hW.alloc hW.size _⟩)))
   have HCN := LH (fun (W : World) (hW : Below wr.heap.size wr W) => (hih W (HBW.out.trans (hW.mono HBW.out.size)) _ (barK kind (occ.getD j 0)) (barK_le _ _) (hy.belowW hW)).mono (fun e w' h => (show e = .returned (.int .i64 (bump t (barK kind (occ.getD j 0)) : Int)) ∧ Below wr.heap.size wr w' from ⟨h.1, hW.trans (h.2.mono hW.size)⟩)))
   unfold NV.val at HCN
   simp only [] at HCN
   have HSF := LH (fun (W : World) (hW : Below wr.heap.size wr W) => (show W.cell? ⟨w.heap.size, 0, none⟩ = some (.int .i64 kind) ∧ W.cell? ⟨w.heap.size, 1, none⟩ = some (.string (str field)) ∧ W.cell? ⟨w.heap.size, 2, none⟩ = some (.string (str text)) ∧ W.cell? ⟨w.heap.size, 3, none⟩ = some (.int .i64 n) ∧ W.cell? ⟨w.heap.size, 4, none⟩ = some (.bool lo.open_) ∧ W.cell? ⟨w.heap.size, 5, none⟩ = some (.bool lo.in_) ∧ W.cell? ⟨w.heap.size, 6, none⟩ = some (.string (str lo.text)) ∧ W.cell? ⟨w.heap.size, 7, none⟩ = some (.bool hi.open_) ∧ W.cell? ⟨w.heap.size, 8, none⟩ = some (.bool hi.in_) ∧ W.cell? ⟨w.heap.size, 9, none⟩ = some (.string (str hi.text)) ∧ W.cell? ⟨w.heap.size, 10, none⟩ = some (.slice oa occ.length oc) ∧ W.cell? ⟨w.heap.size, 11, none⟩ = some (.slice (some a) ks.length kc) ∧ W.cell? (a.add (j * 12)) = some (.int .i64 kd3) ∧ W.cell? ⟨(a.add (j * 12)).block, (a.add (j * 12)).off + 1, none⟩ = some (.string (str fl3)) ∧ W.cell? ⟨(a.add (j * 12)).block, (a.add (j * 12)).off + 2, none⟩ = some (.string (str tx3)) ∧ W.cell? ⟨(a.add (j * 12)).block, (a.add (j * 12)).off + 3, none⟩ = some (.int .i64 xn3) ∧ W.cell? ⟨(a.add (j * 12)).block, (a.add (j * 12)).off + 4, none⟩ = some (.bool la3) ∧ W.cell? ⟨(a.add (j * 12)).block, (a.add (j * 12)).off + 5, none⟩ = some (.bool lb3) ∧ W.cell? ⟨(a.add (j * 12)).block, (a.add (j * 12)).off + 6, none⟩ = some (.string (str lc3)) ∧ W.cell? ⟨(a.add (j * 12)).block, (a.add (j * 12)).off + 7, none⟩ = some (.bool ra3) ∧ W.cell? ⟨(a.add (j * 12)).block, (a.add (j * 12)).off + 8, none⟩ = some (.bool rb3) ∧ W.cell? ⟨(a.add (j * 12)).block, (a.add (j * 12)).off + 9, none⟩ = some (.string (str rc3)) ∧ W.cell? ⟨(a.add (j * 12)).block, (a.add (j * 12)).off + 10, none⟩ = some (.slice oa3 on3 oc3) ∧ W.cell? ⟨(a.add (j * 12)).block, (a.add (j * 12)).off + 11, none⟩ = some (.slice ka3 kn3 kc3) ∧ Below wr.heap.size wr W from ⟨(hW.cell (p := ⟨w.heap.size, 0, none⟩) ln).trans n0, (hW.cell (p := ⟨w.heap.size, 1, none⟩) ln).trans n1, (hW.cell (p := ⟨w.heap.size, 2, none⟩) ln).trans n2, (hW.cell (p := ⟨w.heap.size, 3, none⟩) ln).trans n3, (hW.cell (p := ⟨w.heap.size, 4, none⟩) ln).trans n4, (hW.cell (p := ⟨w.heap.size, 5, none⟩) ln).trans n5, (hW.cell (p := ⟨w.heap.size, 6, none⟩) ln).trans n6, (hW.cell (p := ⟨w.heap.size, 7, none⟩) ln).trans n7, (hW.cell (p := ⟨w.heap.size, 8, none⟩) ln).trans n8, (hW.cell (p := ⟨w.heap.size, 9, none⟩) ln).trans n9, (hW.cell (p := ⟨w.heap.size, 10, none⟩) ln).trans n10, (hW.cell (p := ⟨w.heap.size, 11, none⟩) ln).trans n11, (hW.cell (p := a.add (j * 12)) hab).trans q0, (hW.cell (p := ⟨(a.add (j * 12)).block, (a.add (j * 12)).off + 1, none⟩) hab).trans q1, (hW.cell (p := ⟨(a.add (j * 12)).block, (a.add (j * 12)).off + 2, none⟩) hab).trans q2, (hW.cell (p := ⟨(a.add (j * 12)).block, (a.add (j * 12)).off + 3, none⟩) hab).trans q3, (hW.cell (p := ⟨(a.add (j * 12)).block, (a.add (j * 12)).off + 4, none⟩) hab).trans q4, (hW.cell (p := ⟨(a.add (j * 12)).block, (a.add (j * 12)).off + 5, none⟩) hab).trans q5, (hW.cell (p := ⟨(a.add (j * 12)).block, (a.add (j * 12)).off + 6, none⟩) hab).trans q6, (hW.cell (p := ⟨(a.add (j * 12)).block, (a.add (j * 12)).off + 7, none⟩) hab).trans q7, (hW.cell (p := ⟨(a.add (j * 12)).block, (a.add (j * 12)).off + 8, none⟩) hab).trans q8, (hW.cell (p := ⟨(a.add (j * 12)).block, (a.add (j * 12)).off + 9, none⟩) hab).trans q9, (hW.cell (p := ⟨(a.add (j * 12)).block, (a.add (j * 12)).off + 10, none⟩) hab).trans q10, (hW.cell (p := ⟨(a.add (j * 12)).block, (a.add (j * 12)).off + 11, none⟩) hab).trans q11, hW⟩))
   generalize bump t (barK kind (occ.getD j 0)) = d at *
   generalize barK kind (occ.getD j 0) = br at *
   go_wp2_with fail
   clear n0 n1 n2 n3 n4 n5 n6 n7 n8 n9 n10 n11 q0 q1 q2 q3 q4 q5 q6 q7 q8 q9 q10 q11 hab hy hih hoc
   by_cases hmd : m < d
   ·have hm2 : decide ((m : Int) < (d : Int)) = true := decide_eq_true (by omega)
    have HNX := LH (show max d (nestNs kind (occ.drop (j + 1)) (ks.drop (j + 1))) = nestNs kind occ ks from by
     have h := HM.out
     rw [HST.out] at h
     omega)
    go_region_held3 (fun W => W.cell? ⟨w.heap.size, 0, none⟩ = some (.int .i64 kind) ∧ W.cell? ⟨w.heap.size, 1, none⟩ = some (.string (str field)) ∧ W.cell? ⟨w.heap.size, 2, none⟩ = some (.string (str text)) ∧ W.cell? ⟨w.heap.size, 3, none⟩ = some (.int .i64 n) ∧ W.cell? ⟨w.heap.size, 4, none⟩ = some (.bool lo.open_) ∧ W.cell? ⟨w.heap.size, 5, none⟩ = some (.bool lo.in_) ∧ W.cell? ⟨w.heap.size, 6, none⟩ = some (.string (str lo.text)) ∧ W.cell? ⟨w.heap.size, 7, none⟩ = some (.bool hi.open_) ∧ W.cell? ⟨w.heap.size, 8, none⟩ = some (.bool hi.in_) ∧ W.cell? ⟨w.heap.size, 9, none⟩ = some (.string (str hi.text)) ∧ W.cell? ⟨w.heap.size, 10, none⟩ = some (.slice oa occ.length oc) ∧ W.cell? ⟨w.heap.size, 11, none⟩ = some (.slice (some a) ks.length kc) ∧ W.cell? (a.add (j * 12)) = some (.int .i64 kd3) ∧ W.cell? ⟨(a.add (j * 12)).block, (a.add (j * 12)).off + 1, none⟩ = some (.string (str fl3)) ∧ W.cell? ⟨(a.add (j * 12)).block, (a.add (j * 12)).off + 2, none⟩ = some (.string (str tx3)) ∧ W.cell? ⟨(a.add (j * 12)).block, (a.add (j * 12)).off + 3, none⟩ = some (.int .i64 xn3) ∧ W.cell? ⟨(a.add (j * 12)).block, (a.add (j * 12)).off + 4, none⟩ = some (.bool la3) ∧ W.cell? ⟨(a.add (j * 12)).block, (a.add (j * 12)).off + 5, none⟩ = some (.bool lb3) ∧ W.cell? ⟨(a.add (j * 12)).block, (a.add (j * 12)).off + 6, none⟩ = some (.string (str lc3)) ∧ W.cell? ⟨(a.add (j * 12)).block, (a.add (j * 12)).off + 7, none⟩ = some (.bool ra3) ∧ W.cell? ⟨(a.add (j * 12)).block, (a.add (j * 12)).off + 8, none⟩ = some (.bool rb3) ∧ W.cell? ⟨(a.add (j * 12)).block, (a.add (j * 12)).off + 9, none⟩ = some (.string (str rc3)) ∧ W.cell? ⟨(a.add (j * 12)).block, (a.add (j * 12)).off + 10, none⟩ = some (.slice oa3 on3 oc3) ∧ W.cell? ⟨(a.add (j * 12)).block, (a.add (j * 12)).off + 11, none⟩ = some (.slice ka3 kn3 kc3) ∧ Below wr.heap.size wr W) (exact HSF.out _ (by repeat (first | assumption | exact Below.refl _ _ | with_reducible refine Below.drew ?_))) ((first | ((with_reducible refine (HCB.out _ ?_).mono ?_); (repeat (first | assumption | exact Below.refl _ _ | with_reducible refine Below.drew ?_)); (rintro e w' ⟨rfl, hk1⟩)) | ((with_reducible refine (HCN.out _ ?_).mono ?_); (repeat (first | assumption | exact Below.refl _ _ | with_reducible refine Below.drew ?_)); (rintro e w' ⟨rfl, hk2⟩))))
    rename_i hfin
    have HBF := LH (show Below w2.heap.size w2 _ from HBR.out.trans (hfin.2.2.2.2.2.2.2.2.2.2.2.2.2.2.2.2.2.2.2.2.2.2.2.2.mono HBR.out.size))
    clear hfin
    go_wp2
    go_roundw
    case rel => exact ⟨j + 1, d, hlt, by go_num, by go_num, HNX.out, HBF.out⟩
    case measure => simp [intOf]; omega
   ·have hm2 : decide ((m : Int) < (d : Int)) = false := decide_eq_false (by omega)
    have HNX := LH (show max m (nestNs kind (occ.drop (j + 1)) (ks.drop (j + 1))) = nestNs kind occ ks from by
     have h := HM.out
     rw [HST.out] at h
     omega)
    go_region_held3 (fun W => W.cell? ⟨w.heap.size, 0, none⟩ = some (.int .i64 kind) ∧ W.cell? ⟨w.heap.size, 1, none⟩ = some (.string (str field)) ∧ W.cell? ⟨w.heap.size, 2, none⟩ = some (.string (str text)) ∧ W.cell? ⟨w.heap.size, 3, none⟩ = some (.int .i64 n) ∧ W.cell? ⟨w.heap.size, 4, none⟩ = some (.bool lo.open_) ∧ W.cell? ⟨w.heap.size, 5, none⟩ = some (.bool lo.in_) ∧ W.cell? ⟨w.heap.size, 6, none⟩ = some (.string (str lo.text)) ∧ W.cell? ⟨w.heap.size, 7, none⟩ = some (.bool hi.open_) ∧ W.cell? ⟨w.heap.size, 8, none⟩ = some (.bool hi.in_) ∧ W.cell? ⟨w.heap.size, 9, none⟩ = some (.string (str hi.text)) ∧ W.cell? ⟨w.heap.size, 10, none⟩ = some (.slice oa occ.length oc) ∧ W.cell? ⟨w.heap.size, 11, none⟩ = some (.slice (some a) ks.length kc) ∧ W.cell? (a.add (j * 12)) = some (.int .i64 kd3) ∧ W.cell? ⟨(a.add (j * 12)).block, (a.add (j * 12)).off + 1, none⟩ = some (.string (str fl3)) ∧ W.cell? ⟨(a.add (j * 12)).block, (a.add (j * 12)).off + 2, none⟩ = some (.string (str tx3)) ∧ W.cell? ⟨(a.add (j * 12)).block, (a.add (j * 12)).off + 3, none⟩ = some (.int .i64 xn3) ∧ W.cell? ⟨(a.add (j * 12)).block, (a.add (j * 12)).off + 4, none⟩ = some (.bool la3) ∧ W.cell? ⟨(a.add (j * 12)).block, (a.add (j * 12)).off + 5, none⟩ = some (.bool lb3) ∧ W.cell? ⟨(a.add (j * 12)).block, (a.add (j * 12)).off + 6, none⟩ = some (.string (str lc3)) ∧ W.cell? ⟨(a.add (j * 12)).block, (a.add (j * 12)).off + 7, none⟩ = some (.bool ra3) ∧ W.cell? ⟨(a.add (j * 12)).block, (a.add (j * 12)).off + 8, none⟩ = some (.bool rb3) ∧ W.cell? ⟨(a.add (j * 12)).block, (a.add (j * 12)).off + 9, none⟩ = some (.string (str rc3)) ∧ W.cell? ⟨(a.add (j * 12)).block, (a.add (j * 12)).off + 10, none⟩ = some (.slice oa3 on3 oc3) ∧ W.cell? ⟨(a.add (j * 12)).block, (a.add (j * 12)).off + 11, none⟩ = some (.slice ka3 kn3 kc3) ∧ Below wr.heap.size wr W) (exact HSF.out _ (by repeat (first | assumption | exact Below.refl _ _ | with_reducible refine Below.drew ?_))) ((first | ((with_reducible refine (HCB.out _ ?_).mono ?_); (repeat (first | assumption | exact Below.refl _ _ | with_reducible refine Below.drew ?_)); (rintro e w' ⟨rfl, hk1⟩)) | ((with_reducible refine (HCN.out _ ?_).mono ?_); (repeat (first | assumption | exact Below.refl _ _ | with_reducible refine Below.drew ?_)); (rintro e w' ⟨rfl, hk2⟩))))
    rename_i hfin
    have HBF := LH (show Below w2.heap.size w2 _ from HBR.out.trans (hfin.2.2.2.2.2.2.2.2.2.2.2.2.2.2.2.2.2.2.2.2.2.2.2.2.mono HBR.out.size))
    clear hfin
    go_wp2
    go_roundw
    case rel => exact ⟨j + 1, m, hlt, by go_num, by go_num, HNX.out, HBF.out⟩
    case measure => simp [intOf]; omega
  ·have HE := LH (show m = nestNs kind occ ks from by
    have h := HM.out
    rw [List.drop_eq_nil_of_le (by omega : ks.length ≤ j), nestNs, Nat.max_zero] at h
    exact h)
   have HKD2 := HKD.out
   by_cases hk : 13 ≤ kind ∨ (kind = 9 ∧ 0 < n)
   ·have HD := LH (show T = m + 1 + if lv < mm then 1 else 0 from by rw [HT.out, HE.out]; unfold deepK; rw [if_pos (by omega)])
    by_cases hl : lv < mm
    ·have HD2 := LH (show T = m + 1 + 1 from by rw [HD.out, if_pos hl])
     have hl2 : decide ((lv : Int) < (mm : Int)) = true := decide_eq_true (by omega)
     rcases hk with h13 | ⟨rfl, hn⟩
     all_goals
      go_wp2_with ((with_reducible refine (HLC.out _).mono ?_); rintro e w' ⟨rfl, rfl⟩)
      go_ret
      exact ⟨ret_int15 (by rw [HD2.out]; omega), HBW.out.alloc HBW.out.size _⟩
    ·have HD2 := LH (show T = m + 1 from by rw [HD.out, if_neg hl])
     have hl2 : decide ((lv : Int) < (mm : Int)) = false := decide_eq_false (by omega)
     rcases hk with h13 | ⟨rfl, hn⟩
     all_goals
      go_wp2_with ((with_reducible refine (HLC.out _).mono ?_); rintro e w' ⟨rfl, rfl⟩)
      go_ret
      exact ⟨ret_int15 (by rw [HD2.out]; omega), HBW.out.alloc HBW.out.size _⟩
   ·have HD := LH (show T = m + if lv < mm then 1 else 0 from by rw [HT.out, HE.out]; unfold deepK; rw [if_neg (by omega)]; rfl)
    have h13 : ¬ 13 ≤ kind := fun e => hk (.inl e)
    by_cases hl : lv < mm
    ·have HD2 := LH (show T = m + 1 from by rw [HD.out, if_pos hl])
     have hl2 : decide ((lv : Int) < (mm : Int)) = true := decide_eq_true (by omega)
     by_cases h9 : kind = 9
     ·subst h9
      have hn : ¬ 0 < n := fun e => hk (.inr ⟨rfl, e⟩)
      clear hk
      go_wp2_with ((with_reducible refine (HLC.out _).mono ?_); rintro e w' ⟨rfl, rfl⟩)
      go_ret
      exact ⟨ret_int15 (by rw [HD2.out]; omega), HBW.out.alloc HBW.out.size _⟩
     ·have e4 : (kind == 9) = false := by rw [beq_eq_false_iff_ne]; exact h9
      clear hk h9
      go_wp2_with ((with_reducible refine (HLC.out _).mono ?_); rintro e w' ⟨rfl, rfl⟩)
      go_ret
      exact ⟨ret_int15 (by rw [HD2.out]; omega), HBW.out.alloc HBW.out.size _⟩
    ·have HD2 := LH (show T = m from by rw [HD.out, if_neg hl]; rfl)
     have hl2 : decide ((lv : Int) < (mm : Int)) = false := decide_eq_false (by omega)
     by_cases h9 : kind = 9
     ·subst h9
      have hn : ¬ 0 < n := fun e => hk (.inr ⟨rfl, e⟩)
      clear hk
      go_wp2_with ((with_reducible refine (HLC.out _).mono ?_); rintro e w' ⟨rfl, rfl⟩)
      go_ret
      exact ⟨ret_int15 (by rw [HD2.out]), HBW.out.alloc HBW.out.size _⟩
     ·have e4 : (kind == 9) = false := by rw [beq_eq_false_iff_ne]; exact h9
      clear hk h9
      go_wp2_with ((with_reducible refine (HLC.out _).mono ?_); rintro e w' ⟨rfl, rfl⟩)
      go_ret
      exact ⟨ret_int15 (by rw [HD2.out]), HBW.out.alloc HBW.out.size _⟩
theorem rnest_any (t : Nd) : RnsOk t := nd_ind rnest_of t
end Go.Proofs.YthcldpminmhgkaaDoor
end
section
namespace Go.Proofs.YthcldpminmhgkaaDoor
open Go.Shelf
def Tryd.laysM171_ren : Go.Shelf.Ren := ⟨fun | 171 => 79 | 243 => 97 | 246 => 110 | 283 => 106 | 284 => 107 | 285 => 108 | 286 => 109 | 129 => 119 | 317 => 118 | 318 => 120 | 319 => 121 | 320 => 122 | 337 => 125 | 338 => 126 | n => n, fun | 3 => 3 | 9 => 9 | 2 => 2 | 4 => 4 | 171 => 119 | 0 => 0 | 53 => 99 | 37 => 64 | 5 => 5 | 173 => 122 | 212 => 137 | 51 => 138 | 20 => 20 | 213 => 139 | 46 => 41 | 232 => 142 | 233 => 143 | n => n, fun | 17 => 26 | 18 => 27 | 19 => 28 | n => n⟩
theorem Tryd.laysM171 : Go.Proofs.LaysM.n171 Tryd.prog Tryd.laysM171_ren := {
 mixed := by kernel_rfl
 f129 := Tryd.func119.trans (congrArg some (by kernel_rfl))
 f171 := Tryd.func79.trans (congrArg some (by kernel_rfl))
 f243 := Tryd.func97.trans (congrArg some (by kernel_rfl))
 f246 := Tryd.func110.trans (congrArg some (by kernel_rfl))
 f283 := Tryd.func106.trans (congrArg some (by kernel_rfl))
 f284 := Tryd.func107.trans (congrArg some (by kernel_rfl))
 f285 := Tryd.func108.trans (congrArg some (by kernel_rfl))
 f286 := Tryd.func109.trans (congrArg some (by kernel_rfl))
 f317 := Tryd.func118.trans (congrArg some (by kernel_rfl))
 f318 := Tryd.func120.trans (congrArg some (by kernel_rfl))
 f319 := Tryd.func121.trans (congrArg some (by kernel_rfl))
 f320 := Tryd.func122.trans (congrArg some (by kernel_rfl))
 f337 := Tryd.func125.trans (congrArg some (by kernel_rfl))
 f338 := Tryd.func126.trans (congrArg some (by kernel_rfl))
 t0 := Tryd.underlying0
 a0 := Tryd.isAgg0
 z0 := Tryd.sizeOf0
 v0 := Tryd.zeroValue0
 t2 := Tryd.underlying2
 a2 := Tryd.isAgg2
 z2 := Tryd.sizeOf2
 v2 := Tryd.zeroValue2
 t3 := Tryd.underlying3
 a3 := Tryd.isAgg3
 z3 := Tryd.sizeOf3
 v3 := Tryd.zeroValue3
 t4 := Tryd.underlying4
 a4 := Tryd.isAgg4
 z4 := Tryd.sizeOf4
 v4 := Tryd.zeroValue4
 t5 := Tryd.underlying5
 a5 := Tryd.isAgg5
 z5 := Tryd.sizeOf5
 v5 := Tryd.zeroValue5
 t9 := Tryd.underlying9
 a9 := Tryd.isAgg9
 z9 := Tryd.sizeOf9
 v9 := Tryd.zeroValue9
 t20 := Tryd.underlying20
 a20 := Tryd.isAgg20
 z20 := Tryd.sizeOf20
 v20 := Tryd.zeroValue20
 t37 := Tryd.underlying64
 a37 := Tryd.isAgg64
 z37 := Tryd.sizeOf64
 v37 := Tryd.zeroValue64
 t46 := Tryd.underlying41
 a46 := Tryd.isAgg41
 z46 := Tryd.sizeOf41
 v46 := Tryd.zeroValue41
 t51 := Tryd.underlying138
 a51 := Tryd.isAgg138
 z51 := Tryd.sizeOf138
 v51 := Tryd.zeroValue138
 t53 := Tryd.underlying99
 a53 := Tryd.isAgg99
 z53 := Tryd.sizeOf99
 v53 := Tryd.zeroValue99
 t171 := Tryd.underlying119
 a171 := Tryd.isAgg119
 z171 := Tryd.sizeOf119
 v171 := Tryd.zeroValue119
 t173 := Tryd.underlying122
 a173 := Tryd.isAgg122
 z173 := Tryd.sizeOf122
 v173 := Tryd.zeroValue122
 t212 := Tryd.underlying137
 a212 := Tryd.isAgg137
 z212 := Tryd.sizeOf137
 v212 := Tryd.zeroValue137
 t213 := Tryd.underlying139
 a213 := Tryd.isAgg139
 z213 := Tryd.sizeOf139
 t232 := Tryd.underlying142
 a232 := Tryd.isAgg142
 z232 := Tryd.sizeOf142
 v232 := Tryd.zeroValue142
 t233 := Tryd.underlying143
 a233 := Tryd.isAgg143
 z233 := Tryd.sizeOf143
 v233 := Tryd.zeroValue143
 g17 := by kernel_rfl
 g18 := by kernel_rfl
 g19 := by kernel_rfl
 i0 := by kernel_rfl
 i2 := by kernel_rfl
 i3 := by kernel_rfl
 i4 := by kernel_rfl
 i5 := by kernel_rfl
 i9 := by kernel_rfl
 i20 := by kernel_rfl
 i37 := by kernel_rfl
 i46 := by kernel_rfl
 i51 := by kernel_rfl
 i53 := by kernel_rfl
 i171 := by kernel_rfl
 i173 := by kernel_rfl
 i212 := by kernel_rfl
 i232 := by kernel_rfl
 i233 := by kernel_rfl
 m17 := by kernel_rfl
 m18 := by kernel_rfl
 m19 := by kernel_rfl }
open Go.RowKit Go.Sort Go.Lib in
theorem Tryd.strconv_Itoa (n : Int) (h0 : -9223372036854775808 ≤ n) (h1 : n ≤ 9223372036854775807) (w : World) (htab : Lib.TabIs Tryd.prog w "internal/strconv.uint64pow10" .u64 Lib.pow10Tab) :
  Calls Tryd.prog 79 #[.int .i64 n] w fun e w' => e = .returned (.string ⟨(Lib.itoa n).toArray⟩) ∧ ∃ k os, w' = grow (w.drewN k) os := Any.strconv_Itoa Tryd.laysM171 n h0 h1 w htab
def Tryd.laysM176_ren : Go.Shelf.Ren := ⟨fun | 176 => 56 | 249 => 75 | 288 => 96 | 283 => 106 | 284 => 107 | 285 => 108 | 286 => 109 | 129 => 119 | 317 => 118 | 318 => 120 | 319 => 121 | 320 => 122 | 337 => 125 | 338 => 126 | n => n, fun | 37 => 64 | 2 => 2 | 3 => 3 | 53 => 99 | 4 => 4 | 9 => 9 | 171 => 119 | 0 => 0 | 173 => 122 | 212 => 137 | 51 => 138 | 5 => 5 | 20 => 20 | 213 => 139 | 46 => 41 | 232 => 142 | 233 => 143 | n => n, fun | 17 => 26 | 18 => 27 | 19 => 28 | n => n⟩
theorem Tryd.laysM176 : Go.Proofs.LaysM.n176 Tryd.prog Tryd.laysM176_ren := {
 mixed := by kernel_rfl
 f129 := Tryd.func119.trans (congrArg some (by kernel_rfl))
 f176 := Tryd.func56.trans (congrArg some (by kernel_rfl))
 f249 := Tryd.func75.trans (congrArg some (by kernel_rfl))
 f283 := Tryd.func106.trans (congrArg some (by kernel_rfl))
 f284 := Tryd.func107.trans (congrArg some (by kernel_rfl))
 f285 := Tryd.func108.trans (congrArg some (by kernel_rfl))
 f286 := Tryd.func109.trans (congrArg some (by kernel_rfl))
 f288 := Tryd.func96.trans (congrArg some (by kernel_rfl))
 f317 := Tryd.func118.trans (congrArg some (by kernel_rfl))
 f318 := Tryd.func120.trans (congrArg some (by kernel_rfl))
 f319 := Tryd.func121.trans (congrArg some (by kernel_rfl))
 f320 := Tryd.func122.trans (congrArg some (by kernel_rfl))
 f337 := Tryd.func125.trans (congrArg some (by kernel_rfl))
 f338 := Tryd.func126.trans (congrArg some (by kernel_rfl))
 t0 := Tryd.underlying0
 a0 := Tryd.isAgg0
 z0 := Tryd.sizeOf0
 v0 := Tryd.zeroValue0
 t2 := Tryd.underlying2
 a2 := Tryd.isAgg2
 z2 := Tryd.sizeOf2
 v2 := Tryd.zeroValue2
 t3 := Tryd.underlying3
 a3 := Tryd.isAgg3
 z3 := Tryd.sizeOf3
 v3 := Tryd.zeroValue3
 t4 := Tryd.underlying4
 a4 := Tryd.isAgg4
 z4 := Tryd.sizeOf4
 v4 := Tryd.zeroValue4
 t5 := Tryd.underlying5
 a5 := Tryd.isAgg5
 z5 := Tryd.sizeOf5
 v5 := Tryd.zeroValue5
 t9 := Tryd.underlying9
 a9 := Tryd.isAgg9
 z9 := Tryd.sizeOf9
 v9 := Tryd.zeroValue9
 t20 := Tryd.underlying20
 a20 := Tryd.isAgg20
 z20 := Tryd.sizeOf20
 v20 := Tryd.zeroValue20
 t37 := Tryd.underlying64
 a37 := Tryd.isAgg64
 z37 := Tryd.sizeOf64
 v37 := Tryd.zeroValue64
 t46 := Tryd.underlying41
 a46 := Tryd.isAgg41
 z46 := Tryd.sizeOf41
 v46 := Tryd.zeroValue41
 t51 := Tryd.underlying138
 a51 := Tryd.isAgg138
 z51 := Tryd.sizeOf138
 v51 := Tryd.zeroValue138
 t53 := Tryd.underlying99
 a53 := Tryd.isAgg99
 z53 := Tryd.sizeOf99
 v53 := Tryd.zeroValue99
 t171 := Tryd.underlying119
 a171 := Tryd.isAgg119
 z171 := Tryd.sizeOf119
 v171 := Tryd.zeroValue119
 t173 := Tryd.underlying122
 a173 := Tryd.isAgg122
 z173 := Tryd.sizeOf122
 v173 := Tryd.zeroValue122
 t212 := Tryd.underlying137
 a212 := Tryd.isAgg137
 z212 := Tryd.sizeOf137
 v212 := Tryd.zeroValue137
 t213 := Tryd.underlying139
 a213 := Tryd.isAgg139
 z213 := Tryd.sizeOf139
 t232 := Tryd.underlying142
 a232 := Tryd.isAgg142
 z232 := Tryd.sizeOf142
 v232 := Tryd.zeroValue142
 t233 := Tryd.underlying143
 a233 := Tryd.isAgg143
 z233 := Tryd.sizeOf143
 v233 := Tryd.zeroValue143
 g17 := by kernel_rfl
 g18 := by kernel_rfl
 g19 := by kernel_rfl
 i0 := by kernel_rfl
 i2 := by kernel_rfl
 i3 := by kernel_rfl
 i4 := by kernel_rfl
 i5 := by kernel_rfl
 i9 := by kernel_rfl
 i20 := by kernel_rfl
 i37 := by kernel_rfl
 i46 := by kernel_rfl
 i51 := by kernel_rfl
 i53 := by kernel_rfl
 i171 := by kernel_rfl
 i173 := by kernel_rfl
 i212 := by kernel_rfl
 i232 := by kernel_rfl
 i233 := by kernel_rfl
 m17 := by kernel_rfl
 m18 := by kernel_rfl
 m19 := by kernel_rfl }
open Go.RowKit Go.Sort Go.Lib in
theorem Tryd.strconv_AppendInt_10 (B n : Nat) (i : Int) (h0 : -9223372036854775808 ≤ i) (h1 : i ≤ 9223372036854775807) (sv : Value) (xs : List Value) (w : World) (hown : w.ownsRow B 5 1 sv n xs) (hBw : B ≤ w.heap.size) (hlim : n + 21 ≤ 140737488355328) (htab : Lib.TabBelow Tryd.prog B w "internal/strconv.uint64pow10" .u64 Lib.pow10Tab) :
  Calls Tryd.prog 56 #[sv, .int .i64 i, .int .i64 10] w fun e w' => ∃ v', e = .returned v' ∧ w'.ownsRow B 5 1 v' (n + (Lib.itoa i).length) (xs ++ Lib.byteCells (Lib.itoa i)) ∧ Below B w w' ∧ Lib.OthersKept 5 none w w' := Any.strconv_AppendInt_10 Tryd.laysM176 B n i h0 h1 sv xs w hown hBw hlim htab
end Go.Proofs.YthcldpminmhgkaaDoor
end
section
namespace Go.Proofs.YthcldpminmhgkaaDoor
open Go.Shelf Go.RowKit Go.Sort Go.Lib
def P10 (w : World) : Prop := Lib.TabIs Tryd.prog w "internal/strconv.uint64pow10" .u64 Lib.pow10Tab
theorem gP10x : Tryd.prog.globalNamed "internal/strconv.uint64pow10" = some 26 := by kernel_rfl
theorem P10.lt {w : World} (h : P10 w) : 26 < w.heap.size := by
 unfold P10 Lib.TabIs World.var? at h
 rw [gP10x] at h
 rcases Nat.lt_or_ge 26 w.heap.size with hl | hl
 ·exact hl
 ·simp [Array.getElem?_eq_none hl] at h
theorem P10.belowB {w w' : World} {B : Nat} (h : P10 w) (hB : 26 < B) (hb : Below B w w') : P10 w' := by
 unfold P10 Lib.TabIs World.var? at *
 rw [gP10x] at h ⊢
 have e := hb.block 26 hB
 simpa [e] using h
theorem P10.below {w w' : World} (h : P10 w) (hb : Below w.heap.size w w') : P10 w' := h.belowB h.lt hb
theorem gP10xType : (Tryd.prog.globals[26]?).map (·.type) = some 137 := by kernel_rfl
theorem p10_of_head {W : World} {rest : List (String × DataW Unit)} (h : laidMet Tryd.prog (("internal/strconv.uint64pow10", Lib.tabData .u64 Lib.pow10Tab) :: rest) W) : P10 W :=
 Lib.tabIs_of_head gP10x gP10xType Tryd.underlying137 Tryd.underlying99 (by kernel_rfl) (by kernel_rfl) h
theorem grow_belowx (w : World) (k : Nat) (os : Array Obj) : Below w.heap.size w (grow (w.drewN k) os) :=
 ⟨rfl, rfl, rfl, by show w.heap.size ≤ (w.heap ++ os).size; rw [Array.size_append]; omega, fun i hi => by
  show ((w.drewN k).heap ++ os)[i]? = _
  rw [Array.getElem?_append_left (by show i < w.heap.size; omega)]; rfl⟩
theorem itoa_any (n : Nat) (hn : n < 9223372036854775808) (w : World) (hP : P10 w) :
  Calls Tryd.prog 79 #[.int .i64 (n : Int)] w fun e w' => e = .returned (.string (str (decN n))) ∧ Below w.heap.size w w' := by
 refine (Tryd.strconv_Itoa (n : Int) (by omega) (by omega) w hP).mono ?_
 rintro e w' ⟨rfl, k, os, rfl⟩
 exact ⟨by rw [Lib.itoa_nonneg]; rfl, grow_belowx w k os⟩
theorem litL_length (l : List UInt8) : (litL l).length ≤ 2 * l.length := by
 unfold litL
 induction l with
 | nil => simp
 | cons c l ih =>
  rw [List.flatMap_cons, List.length_append, List.length_cons]
  have : (pesc c).length ≤ 2 := by unfold pesc; split <;> simp
  omega
theorem litL_take {l : List UInt8} {k : Nat} (h : k < l.length) : litL (l.take (k + 1)) = litL (l.take k) ++ pesc l[k] := by
 unfold litL
 rw [List.take_succ_eq_append_getElem h, List.flatMap_append, List.flatMap_singleton]
def LtRel (s : ByteArray) (w : World) (vo iv : Value) (wr : World) : Prop := ∃ k : Nat, k ≤ s.size ∧ iv = .int .i64 (k : Int) ∧ OwnB wr w.heap.size vo (litL (s.data.toList.take k)) ∧ Below w.heap.size w wr
theorem pesc_cases (c : UInt8) : (((c.toNat : Int) == 42) = true ∧ pesc c = [92, c]) ∨ (((c.toNat : Int) == 42) = false ∧ ((c.toNat : Int) == 63) = true ∧ pesc c = [92, c]) ∨ (((c.toNat : Int) == 42) = false ∧ ((c.toNat : Int) == 63) = false ∧ ((c.toNat : Int) == 92) = true ∧ pesc c = [92, c]) ∨ (((c.toNat : Int) == 42) = false ∧ ((c.toNat : Int) == 63) = false ∧ ((c.toNat : Int) == 92) = false ∧ pesc c = [c]) := by
 rw [show ((c.toNat : Int) == 42) = decide (c = 42) from (byte_lit (c := c) (k := 42) (by decide)).1, show ((c.toNat : Int) == 63) = decide (c = 63) from (byte_lit (c := c) (k := 63) (by decide)).1, show ((c.toNat : Int) == 92) = decide (c = 92) from (byte_lit (c := c) (k := 92) (by decide)).1]
 unfold pesc
 by_cases h1 : c = 42 <;> by_cases h2 : c = 63 <;> by_cases h3 : c = 92 <;> simp [h1, h2, h3]
theorem literal_any (s : ByteArray) (w : World) (hs : s.size ≤ 900000000000) :
  Calls Tryd.prog 81 #[.string s] w (StrRet (str (litL s.data.toList)) w) := by
 go_enter Tryd.func81, Tryd.ntmps81
 go_wp2
 go_loopw [3, 4] (fun v i wr => LtRel s w v i wr) (fun _ i _ => s.size - (RowKit.intOf i).toNat)
 case atStart => exact ⟨0, by omega, rfl, OwnB.lit0 w (Nat.le_refl _), (Below.refl _ _).alloc (Nat.le_refl _) _⟩
 case round =>
  obtain ⟨k, hk, rfl, hob, hb⟩ := hrel
  have HB := LH hob; clear hob
  have hBr := hb.size
  have hll : (litL (s.data.toList.take k)).length ≤ 1800000000000 := by
   have h1 := litL_length (s.data.toList.take k)
   have h2 := List.length_take_le k s.data.toList
   omega
  by_cases hlt : k < s.size
  ·have hbx := u8_lt s[k]
   have hkl : k < s.data.toList.length := by rw [← ba_size]; exact hlt
   have HT := LH (show litL (s.data.toList.take (k + 1)) = litL (s.data.toList.take k) ++ pesc s[k] from litL_take hkl)
   rcases pesc_cases s[k] with ⟨g1, g2⟩ | ⟨g1, g3, g2⟩ | ⟨g1, g3, g4, g2⟩ | ⟨g1, g3, g4, g2⟩
   ·have HX := LH g2; clear g2
    go_wp2_with (at_builtin; refine OwnB.appendAt HB.out _ _ rfl _ _ rfl rfl rfl ?_ ?_ ?_ hBr ?_ ?_)
    all_goals first | omega | exact (World.size_alloc ..).symm | skip
    intro v' w' h2 h3 h3k
    have H2 := LH h2; clear h2 h3k
    have hbB := hb.trans h3
    go_wp2_with (at_builtin; refine OwnB.appendAt H2.out _ _ rfl _ _ rfl rfl rfl ?_ ?_ ?_ hbB.size ?_ ?_)
    all_goals first | omega | exact (World.size_alloc ..).symm | (rw [List.length_append, List.length_singleton]; omega) | skip
    intro v2 w2 h4 h5 h5k
    have H4 := LH h4
    clear h4 h5k
    go_wp2
    go_roundw
    case rel =>
     refine ⟨k + 1, by omega, by go_num, ?_, hbB.trans h5⟩
     rw [HT.out, HX.out]
     simpa [ofNat_byte] using H4.out
    case measure => simp [RowKit.intOf]; omega
   ·have HX := LH g2; clear g2
    go_wp2_with (at_builtin; refine OwnB.appendAt HB.out _ _ rfl _ _ rfl rfl rfl ?_ ?_ ?_ hBr ?_ ?_)
    all_goals first | omega | exact (World.size_alloc ..).symm | skip
    intro v' w' h2 h3 h3k
    have H2 := LH h2; clear h2 h3k
    have hbB := hb.trans h3
    go_wp2_with (at_builtin; refine OwnB.appendAt H2.out _ _ rfl _ _ rfl rfl rfl ?_ ?_ ?_ hbB.size ?_ ?_)
    all_goals first | omega | exact (World.size_alloc ..).symm | (rw [List.length_append, List.length_singleton]; omega) | skip
    intro v2 w2 h4 h5 h5k
    have H4 := LH h4
    clear h4 h5k
    go_wp2
    go_roundw
    case rel =>
     refine ⟨k + 1, by omega, by go_num, ?_, hbB.trans h5⟩
     rw [HT.out, HX.out]
     simpa [ofNat_byte] using H4.out
    case measure => simp [RowKit.intOf]; omega
   ·have HX := LH g2; clear g2
    go_wp2_with (at_builtin; refine OwnB.appendAt HB.out _ _ rfl _ _ rfl rfl rfl ?_ ?_ ?_ hBr ?_ ?_)
    all_goals first | omega | exact (World.size_alloc ..).symm | skip
    intro v' w' h2 h3 h3k
    have H2 := LH h2; clear h2 h3k
    have hbB := hb.trans h3
    go_wp2_with (at_builtin; refine OwnB.appendAt H2.out _ _ rfl _ _ rfl rfl rfl ?_ ?_ ?_ hbB.size ?_ ?_)
    all_goals first | omega | exact (World.size_alloc ..).symm | (rw [List.length_append, List.length_singleton]; omega) | skip
    intro v2 w2 h4 h5 h5k
    have H4 := LH h4
    clear h4 h5k
    go_wp2
    go_roundw
    case rel =>
     refine ⟨k + 1, by omega, by go_num, ?_, hbB.trans h5⟩
     rw [HT.out, HX.out]
     simpa [ofNat_byte] using H4.out
    case measure => simp [RowKit.intOf]; omega
   ·have HX := LH g2; clear g2
    go_wp2_with (at_builtin; refine OwnB.appendAt HB.out _ _ rfl _ _ rfl rfl rfl ?_ ?_ ?_ hBr ?_ ?_)
    all_goals first | omega | exact (World.size_alloc ..).symm | skip
    intro v2 w2 h4 h5 h5k
    have H4 := LH h4
    clear h4 h5k
    go_wp2
    go_roundw
    case rel =>
     refine ⟨k + 1, by omega, by go_num, ?_, hb.trans h5⟩
     rw [HT.out, HX.out]
     simpa [ofNat_byte] using H4.out
    case measure => simp [RowKit.intOf]; omega
  ·have HE := LH (show litL s.data.toList = litL (s.data.toList.take k) from by rw [List.take_of_length_le (by rw [← ba_size]; omega)])
   have HC := LH (OwnB.conv HB.out)
   go_wp2_with fail
   simp only [HC.out, Result.andThen]
   go_wp2
   go_ret
   exact ⟨by rw [HE.out]; rfl, hb⟩
end Go.Proofs.YthcldpminmhgkaaDoor
end
