/- Merged for a claim by shake.py: Jo -/
import Derived.Test.YthcldpminmhgkaaDoorKrA
import Derived.Test.YthcldpminmhgkaaDoorKr18
set_option maxRecDepth 100000
set_option maxHeartbeats 4000000
set_option linter.unusedSimpArgs false
set_option linter.unusedVariables false
section
namespace Go.Proofs.YthcldpminmhgkaaDoor
open Go.RowKit
theorem bd_eqIn2 (a b : Bool) (t : List UInt8) (c d : Bool) (u : List UInt8) (W : World) : (Op.equalIn 10000 23 (.agg #[.bool a, .bool b, .string (str t)]) (.agg #[.bool c, .bool d, .string (str u)])).run Tryd.prog W = .ok (decide (a = c ∧ b = d ∧ t = u)) W := by
 rw [run_equalIn_agg W 9999 23 _ _ (show Tryd.prog.underlying 23 = some (.struct (Tryd.prog.fieldsOf 23)) from by kernel_rfl) (by kernel_rfl)]
 simp only [Program.fieldsOf, Tryd.underlying23]
 simp [Op.eqFields, go_sem, Tryd.underlying4, Tryd.underlying9]
 have ht : ((str t).toList = (str u).toList) ↔ t = u := by rw [str_toList, str_toList]
 by_cases h : t = u <;> cases a <;> cases b <;> cases c <;> cases d <;> simp [ht, h]
theorem bd_ne2 (a b : Bool) (t : List UInt8) (c d : Bool) (u : List UInt8) (W : World) : (binOp .neq 23 (.agg #[.bool a, .bool b, .string (str t)]) (.agg #[.bool c, .bool d, .string (str u)])).run Tryd.prog W = .ok (.bool (!decide (a = c ∧ b = d ∧ t = u))) W := by
 have h := bd_eqIn2 a b t c d u W
 rw [run_neq_struct, h]; rfl
theorem str_neq {a b : List UInt8} (h : a ≠ b) : ((str a).toList == (str b).toList) = false ∧ ((str a).toList != (str b).toList) = true ∧ ¬ (str a).toList = (str b).toList := by
 rw [str_toList, str_toList]
 exact ⟨beq_eq_false_iff_ne.2 h, by rw [bne_iff_ne]; exact h, h⟩
theorem sameNs_at : ∀ {l m : List Nd}, l.length = m.length → (∀ (i : Nat) (t u : Nd), l[i]? = some t → m[i]? = some u → sameN t u = true) → sameNs l m = true
 | [], [], _, _ => by simp [sameNs]
 | [], _ :: _, h, _ => by simp at h
 | _ :: _, [], h, _ => by simp at h
 | x :: xs, y :: ys, h, h2 => by
  rw [sameNs, Bool.and_eq_true]
  exact ⟨h2 0 x y rfl rfl, sameNs_at (by simpa using h) fun i t u ht hu => h2 (i + 1) t u ht hu⟩
theorem sameNs_bad {l m : List Nd} {k : Nat} (hk : k < l.length) (hm : k < m.length) (h : sameN l[k] m[k] = false) : sameNs l m = false := by
 rw [Bool.eq_false_iff]
 intro h2
 have e := (sames_iff l m).1 h2
 subst e
 rw [(same_iff _ _).2 rfl] at h; cases h
theorem occ_eq {l m : List Int} (hl : l.length = m.length) (h : ∀ (i : Nat) (x y : Int), l[i]? = some x → m[i]? = some y → x = y) : l = m := by
 apply List.ext_getElem hl
 intro i h1 h2
 exact h i _ _ (List.getElem?_eq_getElem h1) (List.getElem?_eq_getElem h2)
def SmORel (occ occ2 : List Int) (wb : World) (iv : Value) (wr : World) : Prop := ∃ j : Nat, j ≤ occ.length ∧ iv = .int .i64 (j : Int) ∧ (∀ (i : Nat) (x y : Int), i < j → occ[i]? = some x → occ2[i]? = some y → x = y) ∧ Below wb.heap.size wb wr
def SmKRel (ks ks2 : List Nd) (wb : World) (iv : Value) (wr : World) : Prop := ∃ j : Nat, j ≤ ks.length ∧ iv = .int .i64 (j : Int) ∧ (∀ (i : Nat) (x y : Nd), i < j → ks[i]? = some x → ks2[i]? = some y → sameN x y = true) ∧ Below wb.heap.size wb wr
def psameOk (t : Nd) : Prop := ∀ (u : Nd) (w : World) (F G : Nat → Prop) (x y : NV), NdR w F x t → NdR w G y u → Calls Tryd.prog 14 #[x.val, y.val] w (BoolRet (sameN t u) w)
theorem psame_of (kind n : Int) (field text : List UInt8) (lo hi : Bd) (occ : List Int) (ks : List Nd) (ih : ∀ t ∈ ks, psameOk t) : psameOk (.mk kind field text n lo hi occ ks) := by
 intro u w F G x y hx hy
 cases u with
 | mk kind2 field2 text2 n2 lo2 hi2 occ2 ks2 =>
 obtain ⟨oa, ka, oc, kc, e, -, hO, hK⟩ := hx.open_
 obtain ⟨oa2, ka2, oc2, kc2, e2, -, hO2, hK2⟩ := hy.open_
 rw [e, e2]
 clear e e2 hx hy x y
 have hkl : ks.length ≤ 9223372036854775807 := by have h := Nat.le_trans hK.len.1 hK.len.2; unfold maxLen at h; omega
 have hkl2 : ks2.length ≤ 9223372036854775807 := by have h := Nat.le_trans hK2.len.1 hK2.len.2; unfold maxLen at h; omega
 have hol : occ.length ≤ 9223372036854775807 := by have h : occ.length ≤ maxLen := Nat.le_trans hO.2.1 hO.2.2.1; unfold maxLen at h; omega
 have hol2 : occ2.length ≤ 9223372036854775807 := by have h : occ2.length ≤ maxLen := Nat.le_trans hO2.2.1 hO2.2.2.1; unfold maxLen at h; omega
 obtain ⟨l1, l2, l3⟩ := lo; obtain ⟨r1, r2, r3⟩ := hi
 obtain ⟨m1, m2, m3⟩ := lo2; obtain ⟨s1, s2, s3⟩ := hi2
 have HK := LH hK; have HO := LH hO; have HK2 := LH hK2; have HO2 := LH hO2; have HIH := LH ih
 clear hK hO hK2 hO2 ih
 have HB2 := LH (below2 w (.cells #[.int .i64 kind, .string (str field), .string (str text), .int .i64 n, .bool l1, .bool l2, .string (str l3), .bool r1, .bool r2, .string (str r3), .slice oa occ.length oc, .slice ka ks.length kc] 27) (.cells #[.int .i64 kind2, .string (str field2), .string (str text2), .int .i64 n2, .bool m1, .bool m2, .string (str m3), .bool s1, .bool s2, .string (str s3), .slice oa2 occ2.length oc2, .slice ka2 ks2.length kc2] 27))
 have hbn1 := fun W => bd_ne2 l1 l2 l3 m1 m2 m3 W
 have hbn2 := fun W => bd_ne2 r1 r2 r3 s1 s2 s3 W
 have hbg1 := fun op a b u W => bd_grd l1 l2 (str l3) op a b u W
 have hbg2 := fun op a b u W => bd_grd r1 r2 (str r3) op a b u W
 simp only []
 by_cases hq : kind = kind2
 case neg =>
  have hq1 : (kind != kind2) = true := by rw [bne_iff_ne]; exact hq
  have HN := LH (show sameN (.mk kind field text n ⟨l1, l2, l3⟩ ⟨r1, r2, r3⟩ occ ks) (.mk kind2 field2 text2 n2 ⟨m1, m2, m3⟩ ⟨s1, s2, s3⟩ occ2 ks2) = false from by unfold sameN; simp [hq])
  clear hq
  go_enter Tryd.func14, Tryd.ntmps14
  go_wp2
  go_ret
  exact ⟨ret_bool HN.out.symm, below2 _ _ _⟩
 subst hq
 by_cases hq : field = field2
 case neg =>
  obtain ⟨hq1, hq2, hq3⟩ := str_neq hq
  have HN := LH (show sameN (.mk kind field text n ⟨l1, l2, l3⟩ ⟨r1, r2, r3⟩ occ ks) (.mk kind field2 text2 n2 ⟨m1, m2, m3⟩ ⟨s1, s2, s3⟩ occ2 ks2) = false from by unfold sameN; simp [hq])
  clear hq
  go_enter Tryd.func14, Tryd.ntmps14
  go_wp2
  go_ret
  exact ⟨ret_bool HN.out.symm, below2 _ _ _⟩
 subst hq
 by_cases hq : text = text2
 case neg =>
  obtain ⟨hq1, hq2, hq3⟩ := str_neq hq
  have HN := LH (show sameN (.mk kind field text n ⟨l1, l2, l3⟩ ⟨r1, r2, r3⟩ occ ks) (.mk kind field text2 n2 ⟨m1, m2, m3⟩ ⟨s1, s2, s3⟩ occ2 ks2) = false from by unfold sameN; simp [hq])
  clear hq
  go_enter Tryd.func14, Tryd.ntmps14
  go_wp2
  go_ret
  exact ⟨ret_bool HN.out.symm, below2 _ _ _⟩
 subst hq
 by_cases hq : n = n2
 case neg =>
  have hq1 : (n != n2) = true := by rw [bne_iff_ne]; exact hq
  have HN := LH (show sameN (.mk kind field text n ⟨l1, l2, l3⟩ ⟨r1, r2, r3⟩ occ ks) (.mk kind field text n2 ⟨m1, m2, m3⟩ ⟨s1, s2, s3⟩ occ2 ks2) = false from by unfold sameN; simp [hq])
  clear hq
  go_enter Tryd.func14, Tryd.ntmps14
  go_wp2
  go_ret
  exact ⟨ret_bool HN.out.symm, below2 _ _ _⟩
 subst hq
 by_cases hq : l1 = m1 ∧ l2 = m2 ∧ l3 = m3
 case neg =>
  have hd := decide_eq_false hq
  have hbn3 := fun W => (hbn1 W).trans (by rw [decide_eq_false hq])
  have HN := LH (show sameN (.mk kind field text n ⟨l1, l2, l3⟩ ⟨r1, r2, r3⟩ occ ks) (.mk kind field text n ⟨m1, m2, m3⟩ ⟨s1, s2, s3⟩ occ2 ks2) = false from by unfold sameN; rw [Bool.eq_false_iff]; simp; intro a b c; exact absurd ⟨a, b, c⟩ hq)
  simp only [decide_eq_false hq, Bool.not_false] at hbn1
  clear hq hd hbn3
  go_enter Tryd.func14, Tryd.ntmps14
  go_wp2
  go_ret
  exact ⟨ret_bool HN.out.symm, below2 _ _ _⟩
 simp only [decide_eq_true hq, Bool.not_true] at hbn1
 obtain ⟨rfl, rfl, rfl⟩ := hq
 by_cases hq : r1 = s1 ∧ r2 = s2 ∧ r3 = s3
 case neg =>
  have HN := LH (show sameN (.mk kind field text n ⟨l1, l2, l3⟩ ⟨r1, r2, r3⟩ occ ks) (.mk kind field text n ⟨l1, l2, l3⟩ ⟨s1, s2, s3⟩ occ2 ks2) = false from by unfold sameN; rw [Bool.eq_false_iff]; simp; intro a b c; exact absurd ⟨a, b, c⟩ hq)
  simp only [decide_eq_false hq, Bool.not_false] at hbn2
  clear hq
  go_enter Tryd.func14, Tryd.ntmps14
  go_wp2
  go_ret
  exact ⟨ret_bool HN.out.symm, below2 _ _ _⟩
 simp only [decide_eq_true hq, Bool.not_true] at hbn2
 obtain ⟨rfl, rfl, rfl⟩ := hq
 by_cases hq : occ.length = occ2.length
 case neg =>
  have hq1 : ((occ.length : Int) != (occ2.length : Int)) = true := by rw [bne_iff_ne]; omega
  have hq2 : (occ.length == occ2.length) = false := by rw [beq_eq_false_iff_ne]; exact hq
  have HN := LH (show sameN (.mk kind field text n ⟨l1, l2, l3⟩ ⟨r1, r2, r3⟩ occ ks) (.mk kind field text n ⟨l1, l2, l3⟩ ⟨r1, r2, r3⟩ occ2 ks2) = false from by have h : ¬ occ = occ2 := (fun e => hq (by rw [e])); unfold sameN; simp [h])
  clear hq
  go_enter Tryd.func14, Tryd.ntmps14
  go_wp2
  go_ret
  exact ⟨ret_bool HN.out.symm, below2 _ _ _⟩
 have hqocc : ((occ.length : Int) != (occ2.length : Int)) = false := by rw [bne_eq_false_iff_eq]; omega
 have HLocc := LH hq
 clear hq
 by_cases hq : ks.length = ks2.length
 case neg =>
  have hq1 : ((ks.length : Int) != (ks2.length : Int)) = true := by rw [bne_iff_ne]; omega
  have hq2 : (ks.length == ks2.length) = false := by rw [beq_eq_false_iff_ne]; exact hq
  have HN := LH (show sameN (.mk kind field text n ⟨l1, l2, l3⟩ ⟨r1, r2, r3⟩ occ ks) (.mk kind field text n ⟨l1, l2, l3⟩ ⟨r1, r2, r3⟩ occ2 ks2) = false from by have h : sameNs ks ks2 = false := (by rw [Bool.eq_false_iff]; intro e; exact hq (by rw [(sames_iff _ _).1 e])); unfold sameN; simp [h])
  clear hq
  go_enter Tryd.func14, Tryd.ntmps14
  go_wp2
  go_ret
  exact ⟨ret_bool HN.out.symm, below2 _ _ _⟩
 have hqks : ((ks.length : Int) != (ks2.length : Int)) = false := by rw [bne_eq_false_iff_eq]; omega
 have HLks := LH hq
 clear hq
 have HSM := LH (show sameN (.mk kind field text n ⟨l1, l2, l3⟩ ⟨r1, r2, r3⟩ occ ks) (.mk kind field text n ⟨l1, l2, l3⟩ ⟨r1, r2, r3⟩ occ2 ks2) = (decide (occ = occ2) && sameNs ks ks2) from by unfold sameN; simp)
 generalize sameN (.mk kind field text n ⟨l1, l2, l3⟩ ⟨r1, r2, r3⟩ occ ks) (.mk kind field text n ⟨l1, l2, l3⟩ ⟨r1, r2, r3⟩ occ2 ks2) = sm at *
 have HX2 := LH ((Blk.new w 27 #[.int .i64 kind, .string (str field), .string (str text), .int .i64 n, .bool l1, .bool l2, .string (str l3), .bool r1, .bool r2, .string (str r3), .slice oa occ.length oc, .slice ka ks.length kc]).alloc (.cells #[.int .i64 kind, .string (str field), .string (str text), .int .i64 n, .bool l1, .bool l2, .string (str l3), .bool r1, .bool r2, .string (str r3), .slice oa2 occ2.length oc2, .slice ka2 ks2.length kc2] 27))
 have HY2 := LH (show Blk ((w.alloc (.cells #[.int .i64 kind, .string (str field), .string (str text), .int .i64 n, .bool l1, .bool l2, .string (str l3), .bool r1, .bool r2, .string (str r3), .slice oa occ.length oc, .slice ka ks.length kc] 27)).alloc (.cells #[.int .i64 kind, .string (str field), .string (str text), .int .i64 n, .bool l1, .bool l2, .string (str l3), .bool r1, .bool r2, .string (str r3), .slice oa2 occ2.length oc2, .slice ka2 ks2.length kc2] 27)) (w.heap.size + 1) 27 #[.int .i64 kind, .string (str field), .string (str text), .int .i64 n, .bool l1, .bool l2, .string (str l3), .bool r1, .bool r2, .string (str r3), .slice oa2 occ2.length oc2, .slice ka2 ks2.length kc2] from by have h := Blk.new (w.alloc (.cells #[.int .i64 kind, .string (str field), .string (str text), .int .i64 n, .bool l1, .bool l2, .string (str l3), .bool r1, .bool r2, .string (str r3), .slice oa occ.length oc, .slice ka ks.length kc] 27)) 27 #[.int .i64 kind, .string (str field), .string (str text), .int .i64 n, .bool l1, .bool l2, .string (str l3), .bool r1, .bool r2, .string (str r3), .slice oa2 occ2.length oc2, .slice ka2 ks2.length kc2]; rw [World.size_alloc] at h; exact h)
 go_enter Tryd.func14, Tryd.ntmps14
 go_wp2_with fail
 generalize (w.alloc (.cells #[.int .i64 kind, .string (str field), .string (str text), .int .i64 n, .bool l1, .bool l2, .string (str l3), .bool r1, .bool r2, .string (str r3), .slice oa occ.length oc, .slice ka ks.length kc] 27)).alloc (.cells #[.int .i64 kind, .string (str field), .string (str text), .int .i64 n, .bool l1, .bool l2, .string (str l3), .bool r1, .bool r2, .string (str r3), .slice oa2 occ2.length oc2, .slice ka2 ks2.length kc2] 27) = w2 at *
 go_loopw [66] (fun iv wr => SmORel occ occ2 w2 iv wr) (fun iv _ => occ.length - (intOf iv).toNat)
 case atStart => exact ⟨0, Nat.zero_le _, rfl, fun i x y h => absurd h (Nat.not_lt_zero _), Below.refl _ _⟩
 case round =>
  obtain ⟨k, hk, rfl, hall, hb⟩ := hrel
  have HBR := LH hb; have HALL := LH hall
  have HBW := LH (HB2.out.trans (hb.mono HB2.out.size))
  have x10 := (HX2.out.belowW hb).cell 10; have x11 := (HX2.out.belowW hb).cell 11
  have y10 := (HY2.out.belowW hb).cell 10; have y11 := (HY2.out.belowW hb).cell 11
  simp only [List.getElem?_toArray, List.getElem?_cons_zero, List.getElem?_cons_succ] at x10 x11 y10 y11
  clear hb hall
  by_cases hlt : k < occ.length
  ·have hlt2 : k < occ2.length := by have := HLocc.out; omega
   obtain ⟨a, rfl, q0⟩ := occ_cell (HO.out.belowW HBW.out) hlt
   obtain ⟨a2, rfl, p0⟩ := occ_cell (HO2.out.belowW HBW.out) hlt2
   have HZ := LH (List.getElem?_eq_getElem hlt); have HZ2 := LH (List.getElem?_eq_getElem hlt2)
   generalize occ[k] = z at *
   generalize occ2[k] = z2 at *
   by_cases hz : z = z2
   ·subst hz
    go_wp2_with fail
    go_quiet (fail)
    go_wp2
    go_roundw
    case rel =>
     refine ⟨k + 1, hlt, by go_num, fun i x y hi hx hy => ?_, below_drewN HBR.out _⟩
     by_cases hij : i = k
     ·subst hij; rw [HZ.out] at hx; rw [HZ2.out] at hy; injection hx with hx; injection hy with hy; rw [← hx, ← hy]
     ·exact HALL.out i x y (by omega) hx hy
    case measure => simp [intOf]; omega
   ·have hz1 : (z != z2) = true := by rw [bne_iff_ne]; exact hz
    have HN := LH (show sm = false from by
     rw [HSM.out, decide_eq_false (fun e => hz (by
      have h1 := HZ.out; rw [e, HZ2.out] at h1; injection h1 with h1; exact h1.symm))]; rfl)
    clear hz
    go_wp2_with fail
    go_quiet (fail)
    go_wp2
    go_ret
    exact ⟨ret_bool HN.out.symm, below_drewN HBW.out _⟩
  ·have HOC := LH (show occ = occ2 from occ_eq HLocc.out fun i x y hx hy => HALL.out i x y (by have := (List.getElem?_eq_some_iff.1 hx).1; omega) hx hy)
   go_wp2_with fail
   clear x10 x11 y10 y11 hlt hk
   go_loopw [84] (fun iv wr => SmKRel ks ks2 w2 iv wr) (fun iv _ => ks.length - (intOf iv).toNat)
   case atStart => exact ⟨0, Nat.zero_le _, rfl, fun i x y h => absurd h (Nat.not_lt_zero _), HBR.out⟩
   case round =>
    clear HALL HBR HBW
    obtain ⟨k, hk, rfl, hall, hb⟩ := hrel
    have HBR := LH hb; have HALL := LH hall
    have HBW := LH (HB2.out.trans (hb.mono HB2.out.size))
    have x11 := (HX2.out.belowW hb).cell 11; have y11 := (HY2.out.belowW hb).cell 11
    have lx := (HX2.out.belowW hb).lt; have ly := (HY2.out.belowW hb).lt
    simp only [List.getElem?_toArray, List.getElem?_cons_zero, List.getElem?_cons_succ] at x11 y11
    clear hb hall
    by_cases hlt : k < ks.length
    ·have hlt2 : k < ks2.length := by have := HLks.out; omega
     obtain ⟨a, y, rfl, ⟨hab, q0, q1, q2, q3, q4, q5, q6, q7, q8, q9, q10, q11⟩, hy⟩ := (HK.out.belowW HBW.out).kid hlt
     obtain ⟨a2, y2, rfl, ⟨hab2, p0, p1, p2, p3, p4, p5, p6, p7, p8, p9, p10, p11⟩, hy2⟩ := (HK2.out.belowW HBW.out).kid hlt2
     have hc := HIH.out ks[k] (List.getElem_mem hlt) ks2[k]
     have HBAD := LH (fun (h : sameN ks[k] ks2[k] = false) => sameNs_bad hlt hlt2 h)
     have HZ := LH (List.getElem?_eq_getElem hlt); have HZ2 := LH (List.getElem?_eq_getElem hlt2)
     generalize ks[k] = t at *
     generalize ks2[k] = u at *
     have HSU := LH (rfl : sameN t u = sameN t u)
     obtain ⟨kd3, fl3, tx3, xn3, ⟨la3, lb3, lc3⟩, ⟨ra3, rb3, rc3⟩, ⟨oa3, on3, oc3⟩, ⟨ka3, kn3, kc3⟩⟩ := y
     obtain ⟨kd4, fl4, tx4, xn4, ⟨la4, lb4, lc4⟩, ⟨ra4, rb4, rc4⟩, ⟨oa4, on4, oc4⟩, ⟨ka4, kn4, kc4⟩⟩ := y2
     simp only [] at q0 q1 q2 q3 q4 q5 q6 q7 q8 q9 q10 q11 p0 p1 p2 p3 p4 p5 p6 p7 p8 p9 p10 p11
     obtain ⟨b, hbv⟩ : ∃ b, b = sameN t u := ⟨_, rfl⟩
     have HBV := LH hbv
     have HCC := LH (fun (W : World) (hW : Below wr.heap.size wr W) => (hc W _ _ _ _ (hy.belowW hW) (hy2.belowW hW)).mono (fun e w' (h : BoolRet (sameN t u) W e w') => (show e = .returned (.bool b) ∧ Below wr.heap.size wr w' from ⟨by rw [hbv]; exact h.1, hW.trans (h.2.mono hW.size)⟩)))
     unfold NV.val at HCC
     simp only [] at HCC
     have HSF := LH (fun (W : World) (hW : Below wr.heap.size wr W) => (show W.cell? ⟨w.heap.size, 11, none⟩ = some (.slice (some a) ks.length kc) ∧ W.cell? ⟨w.heap.size + 1, 11, none⟩ = some (.slice (some a2) ks2.length kc2) ∧ W.cell? (a.add (k * 12)) = some (.int .i64 kd3) ∧ W.cell? ⟨(a.add (k * 12)).block, (a.add (k * 12)).off + 1, none⟩ = some (.string (str fl3)) ∧ W.cell? ⟨(a.add (k * 12)).block, (a.add (k * 12)).off + 2, none⟩ = some (.string (str tx3)) ∧ W.cell? ⟨(a.add (k * 12)).block, (a.add (k * 12)).off + 3, none⟩ = some (.int .i64 xn3) ∧ W.cell? ⟨(a.add (k * 12)).block, (a.add (k * 12)).off + 4, none⟩ = some (.bool la3) ∧ W.cell? ⟨(a.add (k * 12)).block, (a.add (k * 12)).off + 5, none⟩ = some (.bool lb3) ∧ W.cell? ⟨(a.add (k * 12)).block, (a.add (k * 12)).off + 6, none⟩ = some (.string (str lc3)) ∧ W.cell? ⟨(a.add (k * 12)).block, (a.add (k * 12)).off + 7, none⟩ = some (.bool ra3) ∧ W.cell? ⟨(a.add (k * 12)).block, (a.add (k * 12)).off + 8, none⟩ = some (.bool rb3) ∧ W.cell? ⟨(a.add (k * 12)).block, (a.add (k * 12)).off + 9, none⟩ = some (.string (str rc3)) ∧ W.cell? ⟨(a.add (k * 12)).block, (a.add (k * 12)).off + 10, none⟩ = some (.slice oa3 on3 oc3) ∧ W.cell? ⟨(a.add (k * 12)).block, (a.add (k * 12)).off + 11, none⟩ = some (.slice ka3 kn3 kc3) ∧ W.cell? (a2.add (k * 12)) = some (.int .i64 kd4) ∧ W.cell? ⟨(a2.add (k * 12)).block, (a2.add (k * 12)).off + 1, none⟩ = some (.string (str fl4)) ∧ W.cell? ⟨(a2.add (k * 12)).block, (a2.add (k * 12)).off + 2, none⟩ = some (.string (str tx4)) ∧ W.cell? ⟨(a2.add (k * 12)).block, (a2.add (k * 12)).off + 3, none⟩ = some (.int .i64 xn4) ∧ W.cell? ⟨(a2.add (k * 12)).block, (a2.add (k * 12)).off + 4, none⟩ = some (.bool la4) ∧ W.cell? ⟨(a2.add (k * 12)).block, (a2.add (k * 12)).off + 5, none⟩ = some (.bool lb4) ∧ W.cell? ⟨(a2.add (k * 12)).block, (a2.add (k * 12)).off + 6, none⟩ = some (.string (str lc4)) ∧ W.cell? ⟨(a2.add (k * 12)).block, (a2.add (k * 12)).off + 7, none⟩ = some (.bool ra4) ∧ W.cell? ⟨(a2.add (k * 12)).block, (a2.add (k * 12)).off + 8, none⟩ = some (.bool rb4) ∧ W.cell? ⟨(a2.add (k * 12)).block, (a2.add (k * 12)).off + 9, none⟩ = some (.string (str rc4)) ∧ W.cell? ⟨(a2.add (k * 12)).block, (a2.add (k * 12)).off + 10, none⟩ = some (.slice oa4 on4 oc4) ∧ W.cell? ⟨(a2.add (k * 12)).block, (a2.add (k * 12)).off + 11, none⟩ = some (.slice ka4 kn4 kc4) ∧ Below wr.heap.size wr W from ⟨(hW.cell (p := ⟨w.heap.size, 11, none⟩) lx).trans x11, (hW.cell (p := ⟨w.heap.size + 1, 11, none⟩) ly).trans y11, (hW.cell (p := a.add (k * 12)) hab).trans q0, (hW.cell (p := ⟨(a.add (k * 12)).block, (a.add (k * 12)).off + 1, none⟩) hab).trans q1, (hW.cell (p := ⟨(a.add (k * 12)).block, (a.add (k * 12)).off + 2, none⟩) hab).trans q2, (hW.cell (p := ⟨(a.add (k * 12)).block, (a.add (k * 12)).off + 3, none⟩) hab).trans q3, (hW.cell (p := ⟨(a.add (k * 12)).block, (a.add (k * 12)).off + 4, none⟩) hab).trans q4, (hW.cell (p := ⟨(a.add (k * 12)).block, (a.add (k * 12)).off + 5, none⟩) hab).trans q5, (hW.cell (p := ⟨(a.add (k * 12)).block, (a.add (k * 12)).off + 6, none⟩) hab).trans q6, (hW.cell (p := ⟨(a.add (k * 12)).block, (a.add (k * 12)).off + 7, none⟩) hab).trans q7, (hW.cell (p := ⟨(a.add (k * 12)).block, (a.add (k * 12)).off + 8, none⟩) hab).trans q8, (hW.cell (p := ⟨(a.add (k * 12)).block, (a.add (k * 12)).off + 9, none⟩) hab).trans q9, (hW.cell (p := ⟨(a.add (k * 12)).block, (a.add (k * 12)).off + 10, none⟩) hab).trans q10, (hW.cell (p := ⟨(a.add (k * 12)).block, (a.add (k * 12)).off + 11, none⟩) hab).trans q11, (hW.cell (p := a2.add (k * 12)) hab2).trans p0, (hW.cell (p := ⟨(a2.add (k * 12)).block, (a2.add (k * 12)).off + 1, none⟩) hab2).trans p1, (hW.cell (p := ⟨(a2.add (k * 12)).block, (a2.add (k * 12)).off + 2, none⟩) hab2).trans p2, (hW.cell (p := ⟨(a2.add (k * 12)).block, (a2.add (k * 12)).off + 3, none⟩) hab2).trans p3, (hW.cell (p := ⟨(a2.add (k * 12)).block, (a2.add (k * 12)).off + 4, none⟩) hab2).trans p4, (hW.cell (p := ⟨(a2.add (k * 12)).block, (a2.add (k * 12)).off + 5, none⟩) hab2).trans p5, (hW.cell (p := ⟨(a2.add (k * 12)).block, (a2.add (k * 12)).off + 6, none⟩) hab2).trans p6, (hW.cell (p := ⟨(a2.add (k * 12)).block, (a2.add (k * 12)).off + 7, none⟩) hab2).trans p7, (hW.cell (p := ⟨(a2.add (k * 12)).block, (a2.add (k * 12)).off + 8, none⟩) hab2).trans p8, (hW.cell (p := ⟨(a2.add (k * 12)).block, (a2.add (k * 12)).off + 9, none⟩) hab2).trans p9, (hW.cell (p := ⟨(a2.add (k * 12)).block, (a2.add (k * 12)).off + 10, none⟩) hab2).trans p10, (hW.cell (p := ⟨(a2.add (k * 12)).block, (a2.add (k * 12)).off + 11, none⟩) hab2).trans p11, hW⟩))
     clear x11 y11 q0 q1 q2 q3 q4 q5 q6 q7 q8 q9 q10 q11 p0 p1 p2 p3 p4 p5 p6 p7 p8 p9 p10 p11 hy hy2 hc hbv HSU
     cases b with
     | false =>
      go_wp2_with fail
      go_region_held3 (fun W => W.cell? ⟨w.heap.size, 11, none⟩ = some (.slice (some a) ks.length kc) ∧ W.cell? ⟨w.heap.size + 1, 11, none⟩ = some (.slice (some a2) ks2.length kc2) ∧ W.cell? (a.add (k * 12)) = some (.int .i64 kd3) ∧ W.cell? ⟨(a.add (k * 12)).block, (a.add (k * 12)).off + 1, none⟩ = some (.string (str fl3)) ∧ W.cell? ⟨(a.add (k * 12)).block, (a.add (k * 12)).off + 2, none⟩ = some (.string (str tx3)) ∧ W.cell? ⟨(a.add (k * 12)).block, (a.add (k * 12)).off + 3, none⟩ = some (.int .i64 xn3) ∧ W.cell? ⟨(a.add (k * 12)).block, (a.add (k * 12)).off + 4, none⟩ = some (.bool la3) ∧ W.cell? ⟨(a.add (k * 12)).block, (a.add (k * 12)).off + 5, none⟩ = some (.bool lb3) ∧ W.cell? ⟨(a.add (k * 12)).block, (a.add (k * 12)).off + 6, none⟩ = some (.string (str lc3)) ∧ W.cell? ⟨(a.add (k * 12)).block, (a.add (k * 12)).off + 7, none⟩ = some (.bool ra3) ∧ W.cell? ⟨(a.add (k * 12)).block, (a.add (k * 12)).off + 8, none⟩ = some (.bool rb3) ∧ W.cell? ⟨(a.add (k * 12)).block, (a.add (k * 12)).off + 9, none⟩ = some (.string (str rc3)) ∧ W.cell? ⟨(a.add (k * 12)).block, (a.add (k * 12)).off + 10, none⟩ = some (.slice oa3 on3 oc3) ∧ W.cell? ⟨(a.add (k * 12)).block, (a.add (k * 12)).off + 11, none⟩ = some (.slice ka3 kn3 kc3) ∧ W.cell? (a2.add (k * 12)) = some (.int .i64 kd4) ∧ W.cell? ⟨(a2.add (k * 12)).block, (a2.add (k * 12)).off + 1, none⟩ = some (.string (str fl4)) ∧ W.cell? ⟨(a2.add (k * 12)).block, (a2.add (k * 12)).off + 2, none⟩ = some (.string (str tx4)) ∧ W.cell? ⟨(a2.add (k * 12)).block, (a2.add (k * 12)).off + 3, none⟩ = some (.int .i64 xn4) ∧ W.cell? ⟨(a2.add (k * 12)).block, (a2.add (k * 12)).off + 4, none⟩ = some (.bool la4) ∧ W.cell? ⟨(a2.add (k * 12)).block, (a2.add (k * 12)).off + 5, none⟩ = some (.bool lb4) ∧ W.cell? ⟨(a2.add (k * 12)).block, (a2.add (k * 12)).off + 6, none⟩ = some (.string (str lc4)) ∧ W.cell? ⟨(a2.add (k * 12)).block, (a2.add (k * 12)).off + 7, none⟩ = some (.bool ra4) ∧ W.cell? ⟨(a2.add (k * 12)).block, (a2.add (k * 12)).off + 8, none⟩ = some (.bool rb4) ∧ W.cell? ⟨(a2.add (k * 12)).block, (a2.add (k * 12)).off + 9, none⟩ = some (.string (str rc4)) ∧ W.cell? ⟨(a2.add (k * 12)).block, (a2.add (k * 12)).off + 10, none⟩ = some (.slice oa4 on4 oc4) ∧ W.cell? ⟨(a2.add (k * 12)).block, (a2.add (k * 12)).off + 11, none⟩ = some (.slice ka4 kn4 kc4) ∧ Below wr.heap.size wr W) (exact HSF.out _ (by repeat (first | assumption | exact Below.refl _ _ | with_reducible refine Below.drew ?_))) (((with_reducible refine (HCC.out _ ?_).mono ?_); (repeat (first | assumption | exact Below.refl _ _ | with_reducible refine Below.drew ?_)); (rintro e w' ⟨rfl, hk1⟩)))
      rename_i hfin
      have HBF := LH (show Below w2.heap.size w2 _ from HBR.out.trans (hfin.2.2.2.2.2.2.2.2.2.2.2.2.2.2.2.2.2.2.2.2.2.2.2.2.2.2.mono HBR.out.size))
      clear hfin
      have HN := LH (show sm = false from by rw [HSM.out, HBAD.out HBV.out.symm, Bool.and_false])
      go_wp2
      go_ret
      exact ⟨ret_bool HN.out.symm, HB2.out.trans (HBF.out.mono HB2.out.size)⟩
     | true =>
      go_wp2_with fail
      go_region_held3 (fun W => W.cell? ⟨w.heap.size, 11, none⟩ = some (.slice (some a) ks.length kc) ∧ W.cell? ⟨w.heap.size + 1, 11, none⟩ = some (.slice (some a2) ks2.length kc2) ∧ W.cell? (a.add (k * 12)) = some (.int .i64 kd3) ∧ W.cell? ⟨(a.add (k * 12)).block, (a.add (k * 12)).off + 1, none⟩ = some (.string (str fl3)) ∧ W.cell? ⟨(a.add (k * 12)).block, (a.add (k * 12)).off + 2, none⟩ = some (.string (str tx3)) ∧ W.cell? ⟨(a.add (k * 12)).block, (a.add (k * 12)).off + 3, none⟩ = some (.int .i64 xn3) ∧ W.cell? ⟨(a.add (k * 12)).block, (a.add (k * 12)).off + 4, none⟩ = some (.bool la3) ∧ W.cell? ⟨(a.add (k * 12)).block, (a.add (k * 12)).off + 5, none⟩ = some (.bool lb3) ∧ W.cell? ⟨(a.add (k * 12)).block, (a.add (k * 12)).off + 6, none⟩ = some (.string (str lc3)) ∧ W.cell? ⟨(a.add (k * 12)).block, (a.add (k * 12)).off + 7, none⟩ = some (.bool ra3) ∧ W.cell? ⟨(a.add (k * 12)).block, (a.add (k * 12)).off + 8, none⟩ = some (.bool rb3) ∧ W.cell? ⟨(a.add (k * 12)).block, (a.add (k * 12)).off + 9, none⟩ = some (.string (str rc3)) ∧ W.cell? ⟨(a.add (k * 12)).block, (a.add (k * 12)).off + 10, none⟩ = some (.slice oa3 on3 oc3) ∧ W.cell? ⟨(a.add (k * 12)).block, (a.add (k * 12)).off + 11, none⟩ = some (.slice ka3 kn3 kc3) ∧ W.cell? (a2.add (k * 12)) = some (.int .i64 kd4) ∧ W.cell? ⟨(a2.add (k * 12)).block, (a2.add (k * 12)).off + 1, none⟩ = some (.string (str fl4)) ∧ W.cell? ⟨(a2.add (k * 12)).block, (a2.add (k * 12)).off + 2, none⟩ = some (.string (str tx4)) ∧ W.cell? ⟨(a2.add (k * 12)).block, (a2.add (k * 12)).off + 3, none⟩ = some (.int .i64 xn4) ∧ W.cell? ⟨(a2.add (k * 12)).block, (a2.add (k * 12)).off + 4, none⟩ = some (.bool la4) ∧ W.cell? ⟨(a2.add (k * 12)).block, (a2.add (k * 12)).off + 5, none⟩ = some (.bool lb4) ∧ W.cell? ⟨(a2.add (k * 12)).block, (a2.add (k * 12)).off + 6, none⟩ = some (.string (str lc4)) ∧ W.cell? ⟨(a2.add (k * 12)).block, (a2.add (k * 12)).off + 7, none⟩ = some (.bool ra4) ∧ W.cell? ⟨(a2.add (k * 12)).block, (a2.add (k * 12)).off + 8, none⟩ = some (.bool rb4) ∧ W.cell? ⟨(a2.add (k * 12)).block, (a2.add (k * 12)).off + 9, none⟩ = some (.string (str rc4)) ∧ W.cell? ⟨(a2.add (k * 12)).block, (a2.add (k * 12)).off + 10, none⟩ = some (.slice oa4 on4 oc4) ∧ W.cell? ⟨(a2.add (k * 12)).block, (a2.add (k * 12)).off + 11, none⟩ = some (.slice ka4 kn4 kc4) ∧ Below wr.heap.size wr W) (exact HSF.out _ (by repeat (first | assumption | exact Below.refl _ _ | with_reducible refine Below.drew ?_))) (((with_reducible refine (HCC.out _ ?_).mono ?_); (repeat (first | assumption | exact Below.refl _ _ | with_reducible refine Below.drew ?_)); (rintro e w' ⟨rfl, hk1⟩)))
      rename_i hfin
      have HBF := LH (show Below w2.heap.size w2 _ from HBR.out.trans (hfin.2.2.2.2.2.2.2.2.2.2.2.2.2.2.2.2.2.2.2.2.2.2.2.2.2.2.mono HBR.out.size))
      clear hfin
      go_wp2
      go_roundw
      case rel =>
       refine ⟨k + 1, hlt, by go_num, fun i x y hi hx hy => ?_, HBF.out⟩
       by_cases hij : i = k
       ·subst hij; rw [HZ.out] at hx; rw [HZ2.out] at hy; injection hx with hx; injection hy with hy; rw [← hx, ← hy]; exact HBV.out.symm
       ·exact HALL.out i x y (by omega) hx hy
      case measure => simp [intOf]; omega
    ·have HN := LH (show sm = true from by
      rw [HSM.out, decide_eq_true HOC.out, sameNs_at HLks.out fun i x y hx hy => HALL.out i x y (by have := (List.getElem?_eq_some_iff.1 hx).1; omega) hx hy]; rfl)
     go_wp2
     go_ret
     exact ⟨ret_bool HN.out.symm, HBW.out⟩
theorem psame_any (t : Nd) : psameOk t := nd_ind psame_of t
end Go.Proofs.YthcldpminmhgkaaDoor
end
