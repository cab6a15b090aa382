/- Merged for a claim by shake.py: Jp Jq -/
import Derived.Test.YthcldpminmhgkaaDoorKrA
import Derived.Deep.AppendLies
import Derived.Test.YthcldpminmhgkaaDoorKr19
set_option maxRecDepth 100000
set_option maxHeartbeats 4000000
set_option linter.unusedSimpArgs false
set_option linter.unusedVariables false
section
namespace Go.Proofs.YthcldpminmhgkaaDoor
open Go.RowKit
def rsameOk (t : Nd) : Prop := ∀ (u : Nd) (w : World) (F G : Nat → Prop) (x y : NV), NdR w F x t → NdR w G y u → Calls Tryd.prog 13 #[x.val, y.val] w (BoolRet (sameN t u) w)
theorem rsame_of (kind n : Int) (field text : List UInt8) (lo hi : Bd) (occ : List Int) (ks : List Nd) (ih : ∀ t ∈ ks, rsameOk t) : rsameOk (.mk kind field text n lo hi occ ks) := by
 intro u w F G x y hx hy
 cases u with
 | mk kind2 field2 text2 n2 lo2 hi2 occ2 ks2 =>
 obtain ⟨oa, ka, oc, kc, e, -, hO, hK⟩ := hx.open_
 obtain ⟨oa2, ka2, oc2, kc2, e2, -, hO2, hK2⟩ := hy.open_
 rw [e, e2]
 clear e e2 hx hy x y
 have hkl : ks.length ≤ 9223372036854775807 := by have h := Nat.le_trans hK.len.1 hK.len.2; unfold maxLen at h; omega
 have hkl2 : ks2.length ≤ 9223372036854775807 := by have h := Nat.le_trans hK2.len.1 hK2.len.2; unfold maxLen at h; omega
 have hol : occ.length ≤ 9223372036854775807 := by have h : occ.length ≤ maxLen := Nat.le_trans hO.2.1 hO.2.2.1; unfold maxLen at h; omega
 have hol2 : occ2.length ≤ 9223372036854775807 := by have h : occ2.length ≤ maxLen := Nat.le_trans hO2.2.1 hO2.2.2.1; unfold maxLen at h; omega
 obtain ⟨l1, l2, l3⟩ := lo; obtain ⟨r1, r2, r3⟩ := hi
 obtain ⟨m1, m2, m3⟩ := lo2; obtain ⟨s1, s2, s3⟩ := hi2
 have HK := LH hK; have HO := LH hO; have HK2 := LH hK2; have HO2 := LH hO2; have HIH := LH ih
 clear hK hO hK2 hO2 ih
 have HB2 := LH (below2 w (.cells #[.int .i64 kind, .string (str field), .string (str text), .int .i64 n, .bool l1, .bool l2, .string (str l3), .bool r1, .bool r2, .string (str r3), .slice oa occ.length oc, .slice ka ks.length kc] 27) (.cells #[.int .i64 kind2, .string (str field2), .string (str text2), .int .i64 n2, .bool m1, .bool m2, .string (str m3), .bool s1, .bool s2, .string (str s3), .slice oa2 occ2.length oc2, .slice ka2 ks2.length kc2] 27))
 have hbn1 := fun W => bd_ne2 l1 l2 l3 m1 m2 m3 W
 have hbn2 := fun W => bd_ne2 r1 r2 r3 s1 s2 s3 W
 have hbg1 := fun op a b u W => bd_grd l1 l2 (str l3) op a b u W
 have hbg2 := fun op a b u W => bd_grd r1 r2 (str r3) op a b u W
 simp only []
 by_cases hq : kind = kind2
 case neg =>
  have hq1 : (kind != kind2) = true := by rw [bne_iff_ne]; exact hq
  have HN := LH (show sameN (.mk kind field text n ⟨l1, l2, l3⟩ ⟨r1, r2, r3⟩ occ ks) (.mk kind2 field2 text2 n2 ⟨m1, m2, m3⟩ ⟨s1, s2, s3⟩ occ2 ks2) = false from by unfold sameN; simp [hq])
  clear hq
  go_enter Tryd.func13, Tryd.ntmps13
  go_wp2
  go_ret
  exact ⟨ret_bool HN.out.symm, below2 _ _ _⟩
 subst hq
 by_cases hq : field = field2
 case neg =>
  obtain ⟨hq1, hq2, hq3⟩ := str_neq hq
  have HN := LH (show sameN (.mk kind field text n ⟨l1, l2, l3⟩ ⟨r1, r2, r3⟩ occ ks) (.mk kind field2 text2 n2 ⟨m1, m2, m3⟩ ⟨s1, s2, s3⟩ occ2 ks2) = false from by unfold sameN; simp [hq])
  clear hq
  go_enter Tryd.func13, Tryd.ntmps13
  go_wp2
  go_ret
  exact ⟨ret_bool HN.out.symm, below2 _ _ _⟩
 subst hq
 by_cases hq : text = text2
 case neg =>
  obtain ⟨hq1, hq2, hq3⟩ := str_neq hq
  have HN := LH (show sameN (.mk kind field text n ⟨l1, l2, l3⟩ ⟨r1, r2, r3⟩ occ ks) (.mk kind field text2 n2 ⟨m1, m2, m3⟩ ⟨s1, s2, s3⟩ occ2 ks2) = false from by unfold sameN; simp [hq])
  clear hq
  go_enter Tryd.func13, Tryd.ntmps13
  go_wp2
  go_ret
  exact ⟨ret_bool HN.out.symm, below2 _ _ _⟩
 subst hq
 by_cases hq : n = n2
 case neg =>
  have hq1 : (n != n2) = true := by rw [bne_iff_ne]; exact hq
  have HN := LH (show sameN (.mk kind field text n ⟨l1, l2, l3⟩ ⟨r1, r2, r3⟩ occ ks) (.mk kind field text n2 ⟨m1, m2, m3⟩ ⟨s1, s2, s3⟩ occ2 ks2) = false from by unfold sameN; simp [hq])
  clear hq
  go_enter Tryd.func13, Tryd.ntmps13
  go_wp2
  go_ret
  exact ⟨ret_bool HN.out.symm, below2 _ _ _⟩
 subst hq
 by_cases hq : l1 = m1 ∧ l2 = m2 ∧ l3 = m3
 case neg =>
  have hd := decide_eq_false hq
  have hbn3 := fun W => (hbn1 W).trans (by rw [decide_eq_false hq])
  have HN := LH (show sameN (.mk kind field text n ⟨l1, l2, l3⟩ ⟨r1, r2, r3⟩ occ ks) (.mk kind field text n ⟨m1, m2, m3⟩ ⟨s1, s2, s3⟩ occ2 ks2) = false from by unfold sameN; rw [Bool.eq_false_iff]; simp; intro a b c; exact absurd ⟨a, b, c⟩ hq)
  simp only [decide_eq_false hq, Bool.not_false] at hbn1
  clear hq hd hbn3
  go_enter Tryd.func13, Tryd.ntmps13
  go_wp2
  go_ret
  exact ⟨ret_bool HN.out.symm, below2 _ _ _⟩
 simp only [decide_eq_true hq, Bool.not_true] at hbn1
 obtain ⟨rfl, rfl, rfl⟩ := hq
 by_cases hq : r1 = s1 ∧ r2 = s2 ∧ r3 = s3
 case neg =>
  have HN := LH (show sameN (.mk kind field text n ⟨l1, l2, l3⟩ ⟨r1, r2, r3⟩ occ ks) (.mk kind field text n ⟨l1, l2, l3⟩ ⟨s1, s2, s3⟩ occ2 ks2) = false from by unfold sameN; rw [Bool.eq_false_iff]; simp; intro a b c; exact absurd ⟨a, b, c⟩ hq)
  simp only [decide_eq_false hq, Bool.not_false] at hbn2
  clear hq
  go_enter Tryd.func13, Tryd.ntmps13
  go_wp2
  go_ret
  exact ⟨ret_bool HN.out.symm, below2 _ _ _⟩
 simp only [decide_eq_true hq, Bool.not_true] at hbn2
 obtain ⟨rfl, rfl, rfl⟩ := hq
 by_cases hq : occ.length = occ2.length
 case neg =>
  have hq1 : ((occ.length : Int) != (occ2.length : Int)) = true := by rw [bne_iff_ne]; omega
  have hq2 : (occ.length == occ2.length) = false := by rw [beq_eq_false_iff_ne]; exact hq
  have HN := LH (show sameN (.mk kind field text n ⟨l1, l2, l3⟩ ⟨r1, r2, r3⟩ occ ks) (.mk kind field text n ⟨l1, l2, l3⟩ ⟨r1, r2, r3⟩ occ2 ks2) = false from by have h : ¬ occ = occ2 := (fun e => hq (by rw [e])); unfold sameN; simp [h])
  clear hq
  go_enter Tryd.func13, Tryd.ntmps13
  go_wp2
  go_ret
  exact ⟨ret_bool HN.out.symm, below2 _ _ _⟩
 have hqocc : ((occ.length : Int) != (occ2.length : Int)) = false := by rw [bne_eq_false_iff_eq]; omega
 have HLocc := LH hq
 clear hq
 by_cases hq : ks.length = ks2.length
 case neg =>
  have hq1 : ((ks.length : Int) != (ks2.length : Int)) = true := by rw [bne_iff_ne]; omega
  have hq2 : (ks.length == ks2.length) = false := by rw [beq_eq_false_iff_ne]; exact hq
  have HN := LH (show sameN (.mk kind field text n ⟨l1, l2, l3⟩ ⟨r1, r2, r3⟩ occ ks) (.mk kind field text n ⟨l1, l2, l3⟩ ⟨r1, r2, r3⟩ occ2 ks2) = false from by have h : sameNs ks ks2 = false := (by rw [Bool.eq_false_iff]; intro e; exact hq (by rw [(sames_iff _ _).1 e])); unfold sameN; simp [h])
  clear hq
  go_enter Tryd.func13, Tryd.ntmps13
  go_wp2
  go_ret
  exact ⟨ret_bool HN.out.symm, below2 _ _ _⟩
 have hqks : ((ks.length : Int) != (ks2.length : Int)) = false := by rw [bne_eq_false_iff_eq]; omega
 have HLks := LH hq
 clear hq
 have HSM := LH (show sameN (.mk kind field text n ⟨l1, l2, l3⟩ ⟨r1, r2, r3⟩ occ ks) (.mk kind field text n ⟨l1, l2, l3⟩ ⟨r1, r2, r3⟩ occ2 ks2) = (decide (occ = occ2) && sameNs ks ks2) from by unfold sameN; simp)
 generalize sameN (.mk kind field text n ⟨l1, l2, l3⟩ ⟨r1, r2, r3⟩ occ ks) (.mk kind field text n ⟨l1, l2, l3⟩ ⟨r1, r2, r3⟩ occ2 ks2) = sm at *
 have HX2 := LH ((Blk.new w 27 #[.int .i64 kind, .string (str field), .string (str text), .int .i64 n, .bool l1, .bool l2, .string (str l3), .bool r1, .bool r2, .string (str r3), .slice oa occ.length oc, .slice ka ks.length kc]).alloc (.cells #[.int .i64 kind, .string (str field), .string (str text), .int .i64 n, .bool l1, .bool l2, .string (str l3), .bool r1, .bool r2, .string (str r3), .slice oa2 occ2.length oc2, .slice ka2 ks2.length kc2] 27))
 have HY2 := LH (show Blk ((w.alloc (.cells #[.int .i64 kind, .string (str field), .string (str text), .int .i64 n, .bool l1, .bool l2, .string (str l3), .bool r1, .bool r2, .string (str r3), .slice oa occ.length oc, .slice ka ks.length kc] 27)).alloc (.cells #[.int .i64 kind, .string (str field), .string (str text), .int .i64 n, .bool l1, .bool l2, .string (str l3), .bool r1, .bool r2, .string (str r3), .slice oa2 occ2.length oc2, .slice ka2 ks2.length kc2] 27)) (w.heap.size + 1) 27 #[.int .i64 kind, .string (str field), .string (str text), .int .i64 n, .bool l1, .bool l2, .string (str l3), .bool r1, .bool r2, .string (str r3), .slice oa2 occ2.length oc2, .slice ka2 ks2.length kc2] from by have h := Blk.new (w.alloc (.cells #[.int .i64 kind, .string (str field), .string (str text), .int .i64 n, .bool l1, .bool l2, .string (str l3), .bool r1, .bool r2, .string (str r3), .slice oa occ.length oc, .slice ka ks.length kc] 27)) 27 #[.int .i64 kind, .string (str field), .string (str text), .int .i64 n, .bool l1, .bool l2, .string (str l3), .bool r1, .bool r2, .string (str r3), .slice oa2 occ2.length oc2, .slice ka2 ks2.length kc2]; rw [World.size_alloc] at h; exact h)
 go_enter Tryd.func13, Tryd.ntmps13
 go_wp2_with fail
 generalize (w.alloc (.cells #[.int .i64 kind, .string (str field), .string (str text), .int .i64 n, .bool l1, .bool l2, .string (str l3), .bool r1, .bool r2, .string (str r3), .slice oa occ.length oc, .slice ka ks.length kc] 27)).alloc (.cells #[.int .i64 kind, .string (str field), .string (str text), .int .i64 n, .bool l1, .bool l2, .string (str l3), .bool r1, .bool r2, .string (str r3), .slice oa2 occ2.length oc2, .slice ka2 ks2.length kc2] 27) = w2 at *
 go_loopw [5] (fun iv wr => SmORel occ occ2 w2 iv wr) (fun iv _ => occ.length - (intOf iv).toNat)
 case atStart => exact ⟨0, Nat.zero_le _, rfl, fun i x y h => absurd h (Nat.not_lt_zero _), Below.refl _ _⟩
 case round =>
  obtain ⟨k, hk, rfl, hall, hb⟩ := hrel
  have HBR := LH hb; have HALL := LH hall
  have HBW := LH (HB2.out.trans (hb.mono HB2.out.size))
  have x10 := (HX2.out.belowW hb).cell 10; have x11 := (HX2.out.belowW hb).cell 11
  have y10 := (HY2.out.belowW hb).cell 10; have y11 := (HY2.out.belowW hb).cell 11
  simp only [List.getElem?_toArray, List.getElem?_cons_zero, List.getElem?_cons_succ] at x10 x11 y10 y11
  clear hb hall
  by_cases hlt : k < occ.length
  ·have hlt2 : k < occ2.length := by have := HLocc.out; omega
   obtain ⟨a, rfl, q0⟩ := occ_cell (HO.out.belowW HBW.out) hlt
   obtain ⟨a2, rfl, p0⟩ := occ_cell (HO2.out.belowW HBW.out) hlt2
   have HZ := LH (List.getElem?_eq_getElem hlt); have HZ2 := LH (List.getElem?_eq_getElem hlt2)
   generalize occ[k] = z at *
   generalize occ2[k] = z2 at *
   by_cases hz : z = z2
   ·subst hz
    go_wp2_with fail
    go_quiet (fail)
    go_wp2
    go_roundw
    case rel =>
     refine ⟨k + 1, hlt, by go_num, fun i x y hi hx hy => ?_, below_drewN HBR.out _⟩
     by_cases hij : i = k
     ·subst hij; rw [HZ.out] at hx; rw [HZ2.out] at hy; injection hx with hx; injection hy with hy; rw [← hx, ← hy]
     ·exact HALL.out i x y (by omega) hx hy
    case measure => simp [intOf]; omega
   ·have hz1 : (z != z2) = true := by rw [bne_iff_ne]; exact hz
    have HN := LH (show sm = false from by
     rw [HSM.out, decide_eq_false (fun e => hz (by
      have h1 := HZ.out; rw [e, HZ2.out] at h1; injection h1 with h1; exact h1.symm))]; rfl)
    clear hz
    go_wp2_with fail
    go_quiet (fail)
    go_wp2
    go_ret
    exact ⟨ret_bool HN.out.symm, below_drewN HBW.out _⟩
  ·have HOC := LH (show occ = occ2 from occ_eq HLocc.out fun i x y hx hy => HALL.out i x y (by have := (List.getElem?_eq_some_iff.1 hx).1; omega) hx hy)
   go_wp2_with fail
   clear x10 x11 y10 y11 hlt hk
   go_loopw [6] (fun iv wr => SmKRel ks ks2 w2 iv wr) (fun iv _ => ks.length - (intOf iv).toNat)
   case atStart => exact ⟨0, Nat.zero_le _, rfl, fun i x y h => absurd h (Nat.not_lt_zero _), HBR.out⟩
   case round =>
    clear HALL HBR HBW
    obtain ⟨k, hk, rfl, hall, hb⟩ := hrel
    have HBR := LH hb; have HALL := LH hall
    have HBW := LH (HB2.out.trans (hb.mono HB2.out.size))
    have x11 := (HX2.out.belowW hb).cell 11; have y11 := (HY2.out.belowW hb).cell 11
    have lx := (HX2.out.belowW hb).lt; have ly := (HY2.out.belowW hb).lt
    simp only [List.getElem?_toArray, List.getElem?_cons_zero, List.getElem?_cons_succ] at x11 y11
    clear hb hall
    by_cases hlt : k < ks.length
    ·have hlt2 : k < ks2.length := by have := HLks.out; omega
     obtain ⟨a, y, rfl, ⟨hab, q0, q1, q2, q3, q4, q5, q6, q7, q8, q9, q10, q11⟩, hy⟩ := (HK.out.belowW HBW.out).kid hlt
     obtain ⟨a2, y2, rfl, ⟨hab2, p0, p1, p2, p3, p4, p5, p6, p7, p8, p9, p10, p11⟩, hy2⟩ := (HK2.out.belowW HBW.out).kid hlt2
     have hc := HIH.out ks[k] (List.getElem_mem hlt) ks2[k]
     have HBAD := LH (fun (h : sameN ks[k] ks2[k] = false) => sameNs_bad hlt hlt2 h)
     have HZ := LH (List.getElem?_eq_getElem hlt); have HZ2 := LH (List.getElem?_eq_getElem hlt2)
     generalize ks[k] = t at *
     generalize ks2[k] = u at *
     have HSU := LH (rfl : sameN t u = sameN t u)
     obtain ⟨kd3, fl3, tx3, xn3, ⟨la3, lb3, lc3⟩, ⟨ra3, rb3, rc3⟩, ⟨oa3, on3, oc3⟩, ⟨ka3, kn3, kc3⟩⟩ := y
     obtain ⟨kd4, fl4, tx4, xn4, ⟨la4, lb4, lc4⟩, ⟨ra4, rb4, rc4⟩, ⟨oa4, on4, oc4⟩, ⟨ka4, kn4, kc4⟩⟩ := y2
     simp only [] at q0 q1 q2 q3 q4 q5 q6 q7 q8 q9 q10 q11 p0 p1 p2 p3 p4 p5 p6 p7 p8 p9 p10 p11
     obtain ⟨b, hbv⟩ : ∃ b, b = sameN t u := ⟨_, rfl⟩
     have HBV := LH hbv
     have HCC := LH (fun (W : World) (hW : Below wr.heap.size wr W) => (hc W _ _ _ _ (hy.belowW hW) (hy2.belowW hW)).mono (fun e w' (h : BoolRet (sameN t u) W e w') => (show e = .returned (.bool b) ∧ Below wr.heap.size wr w' from ⟨by rw [hbv]; exact h.1, hW.trans (h.2.mono hW.size)⟩)))
     unfold NV.val at HCC
     simp only [] at HCC
     have HSF := LH (fun (W : World) (hW : Below wr.heap.size wr W) => (show W.cell? ⟨w.heap.size, 11, none⟩ = some (.slice (some a) ks.length kc) ∧ W.cell? ⟨w.heap.size + 1, 11, none⟩ = some (.slice (some a2) ks2.length kc2) ∧ W.cell? (a.add (k * 12)) = some (.int .i64 kd3) ∧ W.cell? ⟨(a.add (k * 12)).block, (a.add (k * 12)).off + 1, none⟩ = some (.string (str fl3)) ∧ W.cell? ⟨(a.add (k * 12)).block, (a.add (k * 12)).off + 2, none⟩ = some (.string (str tx3)) ∧ W.cell? ⟨(a.add (k * 12)).block, (a.add (k * 12)).off + 3, none⟩ = some (.int .i64 xn3) ∧ W.cell? ⟨(a.add (k * 12)).block, (a.add (k * 12)).off + 4, none⟩ = some (.bool la3) ∧ W.cell? ⟨(a.add (k * 12)).block, (a.add (k * 12)).off + 5, none⟩ = some (.bool lb3) ∧ W.cell? ⟨(a.add (k * 12)).block, (a.add (k * 12)).off + 6, none⟩ = some (.string (str lc3)) ∧ W.cell? ⟨(a.add (k * 12)).block, (a.add (k * 12)).off + 7, none⟩ = some (.bool ra3) ∧ W.cell? ⟨(a.add (k * 12)).block, (a.add (k * 12)).off + 8, none⟩ = some (.bool rb3) ∧ W.cell? ⟨(a.add (k * 12)).block, (a.add (k * 12)).off + 9, none⟩ = some (.string (str rc3)) ∧ W.cell? ⟨(a.add (k * 12)).block, (a.add (k * 12)).off + 10, none⟩ = some (.slice oa3 on3 oc3) ∧ W.cell? ⟨(a.add (k * 12)).block, (a.add (k * 12)).off + 11, none⟩ = some (.slice ka3 kn3 kc3) ∧ W.cell? (a2.add (k * 12)) = some (.int .i64 kd4) ∧ W.cell? ⟨(a2.add (k * 12)).block, (a2.add (k * 12)).off + 1, none⟩ = some (.string (str fl4)) ∧ W.cell? ⟨(a2.add (k * 12)).block, (a2.add (k * 12)).off + 2, none⟩ = some (.string (str tx4)) ∧ W.cell? ⟨(a2.add (k * 12)).block, (a2.add (k * 12)).off + 3, none⟩ = some (.int .i64 xn4) ∧ W.cell? ⟨(a2.add (k * 12)).block, (a2.add (k * 12)).off + 4, none⟩ = some (.bool la4) ∧ W.cell? ⟨(a2.add (k * 12)).block, (a2.add (k * 12)).off + 5, none⟩ = some (.bool lb4) ∧ W.cell? ⟨(a2.add (k * 12)).block, (a2.add (k * 12)).off + 6, none⟩ = some (.string (str lc4)) ∧ W.cell? ⟨(a2.add (k * 12)).block, (a2.add (k * 12)).off + 7, none⟩ = some (.bool ra4) ∧ W.cell? ⟨(a2.add (k * 12)).block, (a2.add (k * 12)).off + 8, none⟩ = some (.bool rb4) ∧ W.cell? ⟨(a2.add (k * 12)).block, (a2.add (k * 12)).off + 9, none⟩ = some (.string (str rc4)) ∧ W.cell? ⟨(a2.add (k * 12)).block, (a2.add (k * 12)).off + 10, none⟩ = some (.slice oa4 on4 oc4) ∧ W.cell? ⟨(a2.add (k * 12)).block, (a2.add (k * 12)).off + 11, none⟩ = some (.slice ka4 kn4 kc4) ∧ Below wr.heap.size wr W from ⟨(hW.cell (p := ⟨w.heap.size, 11, none⟩) lx).trans x11, (hW.cell (p := ⟨w.heap.size + 1, 11, none⟩) ly).trans y11, (hW.cell (p := a.add (k * 12)) hab).trans q0, (hW.cell (p := ⟨(a.add (k * 12)).block, (a.add (k * 12)).off + 1, none⟩) hab).trans q1, (hW.cell (p := ⟨(a.add (k * 12)).block, (a.add (k * 12)).off + 2, none⟩) hab).trans q2, (hW.cell (p := ⟨(a.add (k * 12)).block, (a.add (k * 12)).off + 3, none⟩) hab).trans q3, (hW.cell (p := ⟨(a.add (k * 12)).block, (a.add (k * 12)).off + 4, none⟩) hab).trans q4, (hW.cell (p := ⟨(a.add (k * 12)).block, (a.add (k * 12)).off + 5, none⟩) hab).trans q5, (hW.cell (p := ⟨(a.add (k * 12)).block, (a.add (k * 12)).off + 6, none⟩) hab).trans q6, (hW.cell (p := ⟨(a.add (k * 12)).block, (a.add (k * 12)).off + 7, none⟩) hab).trans q7, (hW.cell (p := ⟨(a.add (k * 12)).block, (a.add (k * 12)).off + 8, none⟩) hab).trans q8, (hW.cell (p := ⟨(a.add (k * 12)).block, (a.add (k * 12)).off + 9, none⟩) hab).trans q9, (hW.cell (p := ⟨(a.add (k * 12)).block, (a.add (k * 12)).off + 10, none⟩) hab).trans q10, (hW.cell (p := ⟨(a.add (k * 12)).block, (a.add (k * 12)).off + 11, none⟩) hab).trans q11, (hW.cell (p := a2.add (k * 12)) hab2).trans p0, (hW.cell (p := ⟨(a2.add (k * 12)).block, (a2.add (k * 12)).off + 1, none⟩) hab2).trans p1, (hW.cell (p := ⟨(a2.add (k * 12)).block, (a2.add (k * 12)).off + 2, none⟩) hab2).trans p2, (hW.cell (p := ⟨(a2.add (k * 12)).block, (a2.add (k * 12)).off + 3, none⟩) hab2).trans p3, (hW.cell (p := ⟨(a2.add (k * 12)).block, (a2.add (k * 12)).off + 4, none⟩) hab2).trans p4, (hW.cell (p := ⟨(a2.add (k * 12)).block, (a2.add (k * 12)).off + 5, none⟩) hab2).trans p5, (hW.cell (p := ⟨(a2.add (k * 12)).block, (a2.add (k * 12)).off + 6, none⟩) hab2).trans p6, (hW.cell (p := ⟨(a2.add (k * 12)).block, (a2.add (k * 12)).off + 7, none⟩) hab2).trans p7, (hW.cell (p := ⟨(a2.add (k * 12)).block, (a2.add (k * 12)).off + 8, none⟩) hab2).trans p8, (hW.cell (p := ⟨(a2.add (k * 12)).block, (a2.add (k * 12)).off + 9, none⟩) hab2).trans p9, (hW.cell (p := ⟨(a2.add (k * 12)).block, (a2.add (k * 12)).off + 10, none⟩) hab2).trans p10, (hW.cell (p := ⟨(a2.add (k * 12)).block, (a2.add (k * 12)).off + 11, none⟩) hab2).trans p11, hW⟩))
     clear q0 q1 q2 q3 q4 q5 q6 q7 q8 q9 q10 q11 p0 p1 p2 p3 p4 p5 p6 p7 p8 p9 p10 p11 hy hy2 hc hbv HSU
     cases b with
     | false =>
      go_wp2_with fail
      clear x11 y11
      go_region_held3 (fun W => W.cell? ⟨w.heap.size, 11, none⟩ = some (.slice (some a) ks.length kc) ∧ W.cell? ⟨w.heap.size + 1, 11, none⟩ = some (.slice (some a2) ks2.length kc2) ∧ W.cell? (a.add (k * 12)) = some (.int .i64 kd3) ∧ W.cell? ⟨(a.add (k * 12)).block, (a.add (k * 12)).off + 1, none⟩ = some (.string (str fl3)) ∧ W.cell? ⟨(a.add (k * 12)).block, (a.add (k * 12)).off + 2, none⟩ = some (.string (str tx3)) ∧ W.cell? ⟨(a.add (k * 12)).block, (a.add (k * 12)).off + 3, none⟩ = some (.int .i64 xn3) ∧ W.cell? ⟨(a.add (k * 12)).block, (a.add (k * 12)).off + 4, none⟩ = some (.bool la3) ∧ W.cell? ⟨(a.add (k * 12)).block, (a.add (k * 12)).off + 5, none⟩ = some (.bool lb3) ∧ W.cell? ⟨(a.add (k * 12)).block, (a.add (k * 12)).off + 6, none⟩ = some (.string (str lc3)) ∧ W.cell? ⟨(a.add (k * 12)).block, (a.add (k * 12)).off + 7, none⟩ = some (.bool ra3) ∧ W.cell? ⟨(a.add (k * 12)).block, (a.add (k * 12)).off + 8, none⟩ = some (.bool rb3) ∧ W.cell? ⟨(a.add (k * 12)).block, (a.add (k * 12)).off + 9, none⟩ = some (.string (str rc3)) ∧ W.cell? ⟨(a.add (k * 12)).block, (a.add (k * 12)).off + 10, none⟩ = some (.slice oa3 on3 oc3) ∧ W.cell? ⟨(a.add (k * 12)).block, (a.add (k * 12)).off + 11, none⟩ = some (.slice ka3 kn3 kc3) ∧ W.cell? (a2.add (k * 12)) = some (.int .i64 kd4) ∧ W.cell? ⟨(a2.add (k * 12)).block, (a2.add (k * 12)).off + 1, none⟩ = some (.string (str fl4)) ∧ W.cell? ⟨(a2.add (k * 12)).block, (a2.add (k * 12)).off + 2, none⟩ = some (.string (str tx4)) ∧ W.cell? ⟨(a2.add (k * 12)).block, (a2.add (k * 12)).off + 3, none⟩ = some (.int .i64 xn4) ∧ W.cell? ⟨(a2.add (k * 12)).block, (a2.add (k * 12)).off + 4, none⟩ = some (.bool la4) ∧ W.cell? ⟨(a2.add (k * 12)).block, (a2.add (k * 12)).off + 5, none⟩ = some (.bool lb4) ∧ W.cell? ⟨(a2.add (k * 12)).block, (a2.add (k * 12)).off + 6, none⟩ = some (.string (str lc4)) ∧ W.cell? ⟨(a2.add (k * 12)).block, (a2.add (k * 12)).off + 7, none⟩ = some (.bool ra4) ∧ W.cell? ⟨(a2.add (k * 12)).block, (a2.add (k * 12)).off + 8, none⟩ = some (.bool rb4) ∧ W.cell? ⟨(a2.add (k * 12)).block, (a2.add (k * 12)).off + 9, none⟩ = some (.string (str rc4)) ∧ W.cell? ⟨(a2.add (k * 12)).block, (a2.add (k * 12)).off + 10, none⟩ = some (.slice oa4 on4 oc4) ∧ W.cell? ⟨(a2.add (k * 12)).block, (a2.add (k * 12)).off + 11, none⟩ = some (.slice ka4 kn4 kc4) ∧ Below wr.heap.size wr W) (exact HSF.out _ (by repeat (first | assumption | exact Below.refl _ _ | with_reducible refine Below.drew ?_))) (((with_reducible refine (HCC.out _ ?_).mono ?_); (repeat (first | assumption | exact Below.refl _ _ | with_reducible refine Below.drew ?_)); (rintro e w' ⟨rfl, hk1⟩)))
      rename_i hfin
      have HBF := LH (show Below w2.heap.size w2 _ from HBR.out.trans (hfin.2.2.2.2.2.2.2.2.2.2.2.2.2.2.2.2.2.2.2.2.2.2.2.2.2.2.mono HBR.out.size))
      clear hfin
      have HN := LH (show sm = false from by rw [HSM.out, HBAD.out HBV.out.symm, Bool.and_false])
      go_wp2
      go_ret
      exact ⟨ret_bool HN.out.symm, HB2.out.trans (HBF.out.mono HB2.out.size)⟩
     | true =>
      go_wp2_with fail
      clear x11 y11
      go_region_held3 (fun W => W.cell? ⟨w.heap.size, 11, none⟩ = some (.slice (some a) ks.length kc) ∧ W.cell? ⟨w.heap.size + 1, 11, none⟩ = some (.slice (some a2) ks2.length kc2) ∧ W.cell? (a.add (k * 12)) = some (.int .i64 kd3) ∧ W.cell? ⟨(a.add (k * 12)).block, (a.add (k * 12)).off + 1, none⟩ = some (.string (str fl3)) ∧ W.cell? ⟨(a.add (k * 12)).block, (a.add (k * 12)).off + 2, none⟩ = some (.string (str tx3)) ∧ W.cell? ⟨(a.add (k * 12)).block, (a.add (k * 12)).off + 3, none⟩ = some (.int .i64 xn3) ∧ W.cell? ⟨(a.add (k * 12)).block, (a.add (k * 12)).off + 4, none⟩ = some (.bool la3) ∧ W.cell? ⟨(a.add (k * 12)).block, (a.add (k * 12)).off + 5, none⟩ = some (.bool lb3) ∧ W.cell? ⟨(a.add (k * 12)).block, (a.add (k * 12)).off + 6, none⟩ = some (.string (str lc3)) ∧ W.cell? ⟨(a.add (k * 12)).block, (a.add (k * 12)).off + 7, none⟩ = some (.bool ra3) ∧ W.cell? ⟨(a.add (k * 12)).block, (a.add (k * 12)).off + 8, none⟩ = some (.bool rb3) ∧ W.cell? ⟨(a.add (k * 12)).block, (a.add (k * 12)).off + 9, none⟩ = some (.string (str rc3)) ∧ W.cell? ⟨(a.add (k * 12)).block, (a.add (k * 12)).off + 10, none⟩ = some (.slice oa3 on3 oc3) ∧ W.cell? ⟨(a.add (k * 12)).block, (a.add (k * 12)).off + 11, none⟩ = some (.slice ka3 kn3 kc3) ∧ W.cell? (a2.add (k * 12)) = some (.int .i64 kd4) ∧ W.cell? ⟨(a2.add (k * 12)).block, (a2.add (k * 12)).off + 1, none⟩ = some (.string (str fl4)) ∧ W.cell? ⟨(a2.add (k * 12)).block, (a2.add (k * 12)).off + 2, none⟩ = some (.string (str tx4)) ∧ W.cell? ⟨(a2.add (k * 12)).block, (a2.add (k * 12)).off + 3, none⟩ = some (.int .i64 xn4) ∧ W.cell? ⟨(a2.add (k * 12)).block, (a2.add (k * 12)).off + 4, none⟩ = some (.bool la4) ∧ W.cell? ⟨(a2.add (k * 12)).block, (a2.add (k * 12)).off + 5, none⟩ = some (.bool lb4) ∧ W.cell? ⟨(a2.add (k * 12)).block, (a2.add (k * 12)).off + 6, none⟩ = some (.string (str lc4)) ∧ W.cell? ⟨(a2.add (k * 12)).block, (a2.add (k * 12)).off + 7, none⟩ = some (.bool ra4) ∧ W.cell? ⟨(a2.add (k * 12)).block, (a2.add (k * 12)).off + 8, none⟩ = some (.bool rb4) ∧ W.cell? ⟨(a2.add (k * 12)).block, (a2.add (k * 12)).off + 9, none⟩ = some (.string (str rc4)) ∧ W.cell? ⟨(a2.add (k * 12)).block, (a2.add (k * 12)).off + 10, none⟩ = some (.slice oa4 on4 oc4) ∧ W.cell? ⟨(a2.add (k * 12)).block, (a2.add (k * 12)).off + 11, none⟩ = some (.slice ka4 kn4 kc4) ∧ Below wr.heap.size wr W) (exact HSF.out _ (by repeat (first | assumption | exact Below.refl _ _ | with_reducible refine Below.drew ?_))) (((with_reducible refine (HCC.out _ ?_).mono ?_); (repeat (first | assumption | exact Below.refl _ _ | with_reducible refine Below.drew ?_)); (rintro e w' ⟨rfl, hk1⟩)))
      rename_i hfin
      have HBF := LH (show Below w2.heap.size w2 _ from HBR.out.trans (hfin.2.2.2.2.2.2.2.2.2.2.2.2.2.2.2.2.2.2.2.2.2.2.2.2.2.2.mono HBR.out.size))
      clear hfin
      go_wp2
      go_roundw
      case rel =>
       refine ⟨k + 1, hlt, by go_num, fun i x y hi hx hy => ?_, HBF.out⟩
       by_cases hij : i = k
       ·subst hij; rw [HZ.out] at hx; rw [HZ2.out] at hy; injection hx with hx; injection hy with hy; rw [← hx, ← hy]; exact HBV.out.symm
       ·exact HALL.out i x y (by omega) hx hy
      case measure => simp [intOf]; omega
    ·have HN := LH (show sm = true from by
      rw [HSM.out, decide_eq_true HOC.out, sameNs_at HLks.out fun i x y hx hy => HALL.out i x y (by have := (List.getElem?_eq_some_iff.1 hx).1; omega) hx hy]; rfl)
     go_wp2
     go_ret
     exact ⟨ret_bool HN.out.symm, HBW.out⟩
theorem rsame_any (t : Nd) : rsameOk t := nd_ind rsame_of t
def TrE (t : Nd) (w : World) (e : Ending) (w' : World) : Prop := Below w.heap.size w w' ∧ ∃ (kd xn : Int) (fl tx : List UInt8) (la lb : Bool) (lc : List UInt8) (ra rb : Bool) (rc : List UInt8) (oa : Option Addr) (on oc : Nat) (ka : Option Addr) (kn kc : Nat),
 e = .returned (.agg #[.int .i64 kd, .string (str fl), .string (str tx), .int .i64 xn, .bool la, .bool lb, .string (str lc), .bool ra, .bool rb, .string (str rc), .slice oa on oc, .slice ka kn kc]) ∧ NdR w' (rng w.heap.size w'.heap.size) ⟨kd, fl, tx, xn, ⟨la, lb, lc⟩, ⟨ra, rb, rc⟩, ⟨oa, on, oc⟩, ⟨ka, kn, kc⟩⟩ t
theorem TrE.mk_ {t : Nd} {w w' : World} {x : NV} (hb : Below w.heap.size w w') (hx : NdR w' (rng w.heap.size w'.heap.size) x t) : TrE t w (.returned x.val) w' := by
 obtain ⟨kd, fl, tx, xn, ⟨la, lb, lc⟩, ⟨ra, rb, rc⟩, ⟨oa, on, oc⟩, ⟨ka, kn, kc⟩⟩ := x
 exact ⟨hb, kd, xn, fl, tx, la, lb, lc, ra, rb, rc, oa, on, oc, ka, kn, kc, rfl, hx⟩
def offF (z : Nat) (v : Value) (w : World) : Nat → Prop := fun b => z + 3 ≤ b ∧ b < w.heap.size ∧ v.ownBlock ≠ some b
structure KMade (z : Nat) (cn : Option Addr → Nat → Nat → Array Value) (ts : List Nd) (occ : List Int) (ov : Value) (kA : Option Addr) (j kc : Nat) (nl : List NV) (w : World) : Prop where
 blk : Blk w (z + 2) 27 (cn kA j kc)
 own : OwnL ndS w (z + 3) (.slice kA j kc) nl
 trs : NdRs w (offF z (.slice kA j kc) w) nl ts
 occ : OwnL folS w (z + 3) ov occ
section
variable {z j kc : Nat} {cn : Option Addr → Nat → Nat → Array Value} {ts : List Nd} {occ : List Int} {ov : Value} {kA : Option Addr} {nl : List NV} {w w' : World}
theorem KMade.belowW (h : KMade z cn ts occ ov kA j kc nl w) (hb : Below w.heap.size w w') : KMade z cn ts occ ov kA j kc nl w' :=
 ⟨h.blk.belowW hb, h.own.below hb, (h.trs.belowW hb).mono fun b ⟨h1, h2, h3⟩ => ⟨h1, Nat.lt_of_lt_of_le h2 hb.size, h3⟩, h.occ.below hb⟩
theorem KMade.push {g d : Nat} {wk w5 w6 : World} {x : NV} {t : Nd} (h : KMade z cn ts occ ov kA j kc nl w5) (hk : wk.heap.size ≤ w5.heap.size) (hz : z + 3 ≤ wk.heap.size) (hown : ∀ g, (Value.slice kA j kc).ownBlock = some g → g < wk.heap.size)
  (hx : NdR w5 (rng wk.heap.size w5.heap.size) x t) (ho : OwnL ndS w6 (z + 3) (.slice (some ⟨g, 0, none⟩) (j + 1) d) (nl ++ [x])) (hb : Below (z + 3) w5 w6) (hkp : KeptBut w5 w6 (.slice kA j kc)) (hg : (Value.slice kA j kc).ownBlock = some g ∨ w5.heap.size ≤ g) (hcn : Blk w' (z + 2) 27 (cn (some ⟨g, 0, none⟩) (j + 1) d))
  (hs : ∀ b, b ≠ z + 2 → w'.heap[b]? = w6.heap[b]?) (hsz : w'.heap.size = w6.heap.size) : KMade z cn (ts ++ [t]) occ ov (some ⟨g, 0, none⟩) (j + 1) d (nl ++ [x]) w' := by
 have hkeep : ∀ b, b < w5.heap.size → (Value.slice kA j kc).ownBlock ≠ some b → b ≠ z + 2 → w'.heap[b]? = w5.heap[b]? := fun b h1 h2 h3 => (hs b h3).trans (hkp b h1 h2)
 have hle : w5.heap.size ≤ w'.heap.size := by rw [hsz]; exact hb.size
 refine ⟨hcn, ?_, ?_, ?_⟩
 ·refine ⟨ho.1, ?_⟩
  rcases ho.2 with h2 | ⟨g', cap, cur, hv, hg', hh, r⟩
  ·exact Or.inl h2
  ·exact Or.inr ⟨g', cap, cur, hv, hg', by rw [hs g' (by omega)]; exact hh, r⟩
 ·have hnew : ∀ b, z + 3 ≤ b → b < w5.heap.size → (Value.slice kA j kc).ownBlock ≠ some b → b ≠ g := by
   intro b h1 h2 h3 e
   subst e
   rcases hg with hg | hg
   ·exact h3 hg
   ·omega
  refine NdRs.snoc ?_ ?_
  ·refine (h.trs.keep fun p hp hlt => ?_).mono fun b hb => ?_
   ·exact World.cell?_of_block (hkeep _ hlt hp.2.2 (by have := hp.1; omega))
   ·refine ⟨hb.1, Nat.lt_of_lt_of_le hb.2.1 hle, fun e => ?_⟩
    injection e with e
    exact hnew b hb.1 hb.2.1 hb.2.2 e.symm
  ·have hoff : ∀ b, rng wk.heap.size w5.heap.size b → (Value.slice kA j kc).ownBlock ≠ some b := fun b hb e => by
    have := hown b e
    have := hb.1
    omega
   refine (hx.keep fun p hp hlt => ?_).mono fun b hb => ?_
   ·exact World.cell?_of_block (hkeep _ hlt (hoff _ hp) (by have := hp.1; omega))
   ·refine ⟨by have := hb.1; omega, Nat.lt_of_lt_of_le hb.2 hle, fun e => ?_⟩
    injection e with e
    exact hnew b (by have := hb.1; omega) hb.2 (hoff b hb) e.symm
 ·have h6 := h.occ.keptL h.own (show folS.tE ≠ ndS.tE by decide) hkp
  refine ⟨h6.1, ?_⟩
  rcases h6.2 with h2 | ⟨g', cap, cur, hv, hg', hh, r⟩
  ·exact Or.inl h2
  ·exact Or.inr ⟨g', cap, cur, hv, hg', by rw [hs g' (by omega)]; exact hh, r⟩
theorem KMade.node {kind n : Int} {field text : List UInt8} {lo hi : Bd} {oA : Option Addr} {oc B : Nat} (h : KMade z cn ts occ (.slice oA occ.length oc) kA j kc nl w) (hB : B ≤ z + 3) (hl : nl.length = j) : NdR w (rng B w.heap.size) ⟨kind, field, text, n, lo, hi, ⟨oA, occ.length, oc⟩, ⟨kA, j, kc⟩⟩ (.mk kind field text n lo hi occ ts) := by
 refine .mk ?_ ?_ h.trs.1 fun i x t hx ht => (h.trs.2 i x t hx ht).mono fun b hb => ⟨by have := hb.1; omega, hb.2.1⟩
 ·exact RdF.of_own h.occ fun g _ h1 h2 => ⟨by omega, h2⟩
 ·exact RdF.of_own h.own fun g _ h1 h2 => ⟨by omega, h2⟩
theorem KMade.first (h : KMade z cn ts occ ov kA j kc nl w) {B : Nat} (hB : B ≤ z + 3) {t : Nd} (ht : ts = [t]) (hl : nl.length = j) : ∃ (a : Addr) (x : NV), kA = some a ∧ j = 1 ∧ At12 w a x ∧ NdR w (rng B w.heap.size) x t := by
 subst ht
 have hln : nl.length = 1 := h.trs.1
 obtain ⟨x, rfl⟩ := List.length_eq_one_iff.1 hln
 have hj : j = 1 := by rw [← hl]; rfl
 subst hj
 have hrd := RdF.of_own (F := fun b => b < w.heap.size) h.own (fun g _ _ h2 => h2)
 obtain ⟨a, e, hc⟩ := kid_cells hrd (k := 0) (Nat.lt_succ_self 0)
 have e0 : a.add (0 * 12) = a := by unfold Addr.add; rfl
 rw [e0] at hc
 exact ⟨a, x, e, rfl, hc, (h.trs.2 0 x t rfl rfl).mono fun b hb => ⟨by have := hb.1; omega, hb.2.1⟩⟩
end
theorem own_lt {α : Type} {S : Shape α} {w : World} {B : Nat} {v : Value} {l : List α} (h : OwnL S w B v l) : ∀ g, v.ownBlock = some g → g < w.heap.size := fun g hg => by
 obtain ⟨cur, hc⟩ := own_block h hg
 rcases Nat.lt_or_ge g w.heap.size with h | h
 ·exact h
 ·rw [Array.getElem?_eq_none h] at hc; cases hc
theorem canonNs_take {ks : List Nd} {j : Nat} (h : j < ks.length) : canonNs (ks.take (j + 1)) = canonNs (ks.take j) ++ [canonN ks[j]] := by
 rw [canonNs_map, canonNs_map, List.take_succ_eq_append_getElem h, List.map_append]; rfl
theorem OwnL.appendRP {α : Type} {S : Shape α} (hS : S.Ok) {w : World} {B C : Nat} {v x : Value} {l m : List α} (h : OwnL S w B v l) (hx : RdL S w C x m) {ops : Array Oper} {rest : List Oper} {o : Oper} {a : Act} {Q : Exit → Act → World → Prop} (hgd : o.guard = none) (s y : Operand)
  (ho : o.op = .call { callee := .builtin .append, args := #[s, y], argTypes := #[S.tS, S.tS] }) (hs : a.eval s = v) (hy : a.eval y = x) (hB : B ≤ w.heap.size) (hl : l.length + m.length ≤ 970000000000)
  (k : ∀ v' w', OwnL S w' B v' (l ++ m) → Below B w w' → wpList Tryd.prog ops Q rest (a.put o.dst v') w') :
  wpList Tryd.prog ops Q (o :: rest) a w := by
 obtain ⟨i0, hi, hz0, hz1, hz2⟩ := info_parts hS.info
 have hlt := World.ownsRow.lt h
 obtain ⟨A, cap, rfl, h1, h2, h3, h4⟩ := hx
 cases A with
 | none =>
  have e : m = [] := by
   rcases Nat.eq_zero_or_pos m.length with h0 | h0
   ·exact List.eq_nil_of_length_eq_zero h0
   ·obtain ⟨_, e, _⟩ := h3 h0; cases e
  subst e
  rw [h4 rfl] at hy
  refine wpList_append_own_none hgd s y S.tS ho B S.tE i0 S.size hS.under hi v l.length (S.cells l) hs h hy ?_
  exact k v w (by rw [List.append_nil]; exact h) (Below.refl _ _)
 | some ad =>
  have hc : ∀ j u, (S.cells m)[j]? = some u → w.cell? (ad.add j) = some u := by
   intro j u hu
   rcases Nat.eq_zero_or_pos m.length with h0 | h0
   ·rw [List.eq_nil_of_length_eq_zero h0] at hu; simp [Shape.cells] at hu
   ·obtain ⟨a', e, _, hc⟩ := h3 h0
    cases e
    exact hc j u hu
  refine wpList_append_own _ hgd s y S.tS ho B S.tE i0 S.zero S.size S.bytes hS.under hi hz0 hz1 hz2 hS.zs hS.pos v l.length (S.cells l) hs h ad m.length cap (S.cells m) hy (Shape.cells_length hS m) hc ?_ ?_ ?_ hB ?_
  ·intro u hu
   obtain ⟨x, _, hx⟩ := List.mem_flatMap.1 hu
   exact hS.one x u hx
  ·unfold maxLen; omega
  ·have := hS.small
   have h1 : (l.length + m.length) * S.bytes ≤ 970000000000 * 145 := Nat.mul_le_mul hl this
   omega
  ·intro v' w' h2 h3 _
   refine k v' w' ?_ ?_
   ·unfold OwnL
    rw [Shape.cells_append, List.length_append]
    exact h2
   ·exact (Below.refl _ _).grown h3 hB (fun g hg => (hlt g hg).1)
theorem OwnL.appendG {α : Type} {S : Shape α} (hS : S.Ok) {w : World} {B : Nat} {v : Value} {l : List α} (h : OwnL S w B v l) (x : α) (nb : Nat) {ops : Array Oper} {rest : List Oper} {o : Oper} {a : Act} {Q : Exit → Act → World → Prop} (hgd : o.guard = none) (s y : Operand)
  (ho : o.op = .call { callee := .builtin .append, args := #[s, y], argTypes := #[S.tS, S.tS] }) (hs : a.eval s = v) (hy : a.eval y = .slice (some ⟨nb, 0, none⟩) 1 1) (hnb : ∀ j u, (S.enc x)[j]? = some u → w.cell? ⟨nb, j, none⟩ = some u) (hB : B ≤ w.heap.size) (hl : l.length + 1 ≤ 970000000000)
  (k : ∀ g cap w', OwnL S w' B (.slice (some ⟨g, 0, none⟩) (l.length + 1) cap) (l ++ [x]) → Below B w w' → KeptBut w w' v → (v.ownBlock = some g ∨ g = w.heap.size) → g < w'.heap.size → wpList Tryd.prog ops Q rest (a.put o.dst (.slice (some ⟨g, 0, none⟩) (l.length + 1) cap)) w') :
  wpList Tryd.prog ops Q (o :: rest) a w := by
 obtain ⟨i0, hi, hz0, hz1, hz2⟩ := info_parts hS.info
 have hlt := World.ownsRow.lt h
 refine wpList_append_lies w hgd s y S.tS ho B S.tE i0 S.zero S.size S.bytes hS.under hi hz0 hz1 hz2 hS.zs hS.pos v l.length (S.cells l) hs h ⟨nb, 0, none⟩ 1 1 (S.enc x) hy (by rw [hS.len, Nat.one_mul]) ?_ (hS.one x) (by decide) ?_ ?_ hB w.heap.size rfl ?_
 ·intro j u hj
  rw [show (⟨nb, 0, none⟩ : Addr).add j = ⟨nb, j, none⟩ from by unfold Addr.add; split <;> simp_all]
  exact hnb j u hj
 ·unfold maxLen; omega
 ·have := hS.small
  have h2 := Nat.mul_le_mul hl this
  omega
 ·intro g2 cap2 w' h2 h3 h4 h5
  refine k g2 cap2 w' ?_ ?_ ?_ h4 h5
  ·unfold OwnL
   rw [List.length_append, Shape.cells_append, show S.cells [x] = S.enc x from by simp [Shape.cells]]
   exact h2
  ·exact (Below.refl _ _).grown h3 hB (fun g hg => (hlt g hg).1)
  ·intro b hb hv
   exact h3.block b hb (fun e => hv e.symm)
end Go.Proofs.YthcldpminmhgkaaDoor
end
