/- Merged for a claim by shake.py: Dd De Df -/
import Derived.Test.YtcomdkejpaoneaaDoorKfA
import Derived.Test.YtcomdkejpaoneaaDoorKf18
import Derived.Test.YtcomdkejpaoneaaDoorKf34
import Derived.Test.YtcomdkejpaoneaaDoorKf40
section
namespace Go.Proofs.YtcomdkejpaoneaaDoor
open Go.RowKit
set_option maxRecDepth 100000
set_option maxHeartbeats 4000000
set_option linter.unusedSimpArgs false
set_option linter.unusedVariables false
def ClRel (ts : List Lt) (B : Nat) (w : World) (iv ov dv fv : Value) (wr : World) : Prop :=
 ∃ (i f : Nat) (d p : Int) (sls : List Sl) (done : List (Nat × Nat)), i ≤ ts.length ∧ f ≤ i ∧ -(i : Int) ≤ d ∧ d ≤ (i : Int) ∧ iv = .int .i64 (i : Int) ∧ dv = .int .i64 d ∧ fv = .int .i64 (f : Int) ∧ OwnL slS wr w.heap.size ov sls ∧ Pcs wr B ts sls done ∧
  clI 0 0 0 0 ts = done ++ clI i f d p (ts.drop i) ∧ (∀ t, 0 < i → ts[i - 1]? = some t → t.kind = p) ∧ done.length ≤ i ∧ Below w.heap.size w wr
theorem rclauses_any (ts : List Lt) (w : World) (B : Nat) (A : Option Addr) (n cap : Nat) (h : RdL ltS w B (.slice A n cap) ts) (hB : B ≤ w.heap.size) (hl : ts.length ≤ 100000000) :
  Calls Tryd.prog 87 #[.slice A n cap] w (CutRet ts (clI 0 0 0 0 ts) B w) := by
 obtain ⟨A', cap', e, hc1, hc2⟩ := h.open_
 injection e with e1 e2 e3
 subst e1 e2 e3
 have HR := LH h; have HBW := LH hB
 clear h hB
 have HO1 := LH (show OwnL slS (w.alloc (.cells #[] 42)) w.heap.size (.slice (some ⟨w.heap.size, 0, none⟩) 0 0) [] from OwnL.lit0 slS w (Nat.le_refl _))
 have HB1 := LH (show Below w.heap.size w (w.alloc (.cells #[] 42)) from (Below.refl _ _).alloc (Nat.le_refl _) _)
 go_enter Tryd.func87, Tryd.ntmps87
 go_wp2
 generalize w.alloc (.cells #[] 42) = w1 at *
 go_loopw [11, 3, 4, 5] (fun iv ov dv fv wr => ClRel ts B w iv ov dv fv wr) (fun iv _ _ _ _ => ts.length - (intOf iv).toNat)
 case atStart => exact ⟨0, 0, 0, 0, [], [], Nat.zero_le _, Nat.le_refl _, by decide, by decide, rfl, rfl, rfl, HO1.out, Pcs.nil _ _ _, rfl, fun _ h => absurd h (by decide), Nat.zero_le _, HB1.out⟩
 case round =>
  obtain ⟨i, f, d, p, sls, done, hi, hf, hd1, hd2, rfl, rfl, rfl, ho, hp, hcut, hpk, hdl, hb⟩ := hrel
  have HO := LH ho; have HP := LH hp; have HC := LH hcut; have HB := LH hb; have HDL := LH hdl; have HPK := LH hpk
  have HRR := LH (HR.out.belowW HBW.out hb)
  have hsl := hp.1
  have HSL := LH hsl
  have hBr := hb.size
  obtain ⟨OA, oc, rfl, -, -⟩ := ho.form
  clear ho hp hcut hb hsl hdl hpk HO1 HB1
  by_cases hlt : i < ts.length
  ·obtain ⟨a, rfl, hab, c0, c1, c2, c3, c4⟩ := at_lt HRR.out hlt
   have HD := LH (List.drop_eq_getElem_cons hlt)
   have HTK := LH (List.getElem?_eq_getElem hlt)
   have hbk := brk_bd ts[i].kind
   obtain ⟨pa, pq, hpr, hrun⟩ := lt_cut HRR.out hf (Nat.le_of_lt hlt)
   have HPR := LH hpr
   clear hpr
   generalize hT : ts[i] = t at *
   clear hT
   obtain ⟨k, tx, tn, ta, te⟩ := t
   simp only [] at c0 c1 c2 c3 c4 hbk
   have HBX := LH (HB.out.alloc hBr (.cells #[.int .i64 k, .string (str tx), .int .i64 tn, .int .i64 ta, .int .i64 te] 49))
   have HOX := LH (HO.out.alloc (.cells #[.int .i64 k, .string (str tx), .int .i64 tn, .int .i64 ta, .int .i64 te] 49))
   have HPX := LH (HP.out.belowW (Nat.le_trans HBW.out hBr) ((Below.refl wr.heap.size wr).alloc (Nat.le_refl _) (.cells #[.int .i64 k, .string (str tx), .int .i64 tn, .int .i64 ta, .int .i64 te] 49)))
   have HPRX := LH (HPR.out.belowW (Nat.le_trans HBW.out hBr) ((Below.refl wr.heap.size wr).alloc (Nat.le_refl _) (.cells #[.int .i64 k, .string (str tx), .int .i64 tn, .int .i64 ta, .int .i64 te] 49)))
   have HRX := LH (HRR.out.belowW (Nat.le_trans HBW.out hBr) ((Below.refl wr.heap.size wr).alloc (Nat.le_refl _) (.cells #[.int .i64 k, .string (str tx), .int .i64 tn, .int .i64 ta, .int .i64 te] 49)))
   have HTX := LH (Blk.new wr 49 #[.int .i64 k, .string (str tx), .int .i64 tn, .int .i64 ta, .int .i64 te])
   have hdn : -100000000 ≤ d ∧ d ≤ 100000000 := by omega
   have HD12 := LH (And.intro hd1 hd2)
   have HBK := LH hbk
   clear hd1 hd2
   have HLB := LH (show sls.length + 1 ≤ 100000000000 from by have := HSL.out; have := HDL.out; omega)
   have hnext : ∀ t, 0 < i + 1 → ts[i + 1 - 1]? = some t → t.kind = k := by
    intro t _ ht
    rw [Nat.add_sub_cancel, HTK.out] at ht
    injection ht with ht
    rw [← ht]
   have HNX := LH hnext
   clear hnext
   have hyes : ∀ W v', OwnL slS W w.heap.size v' (sls ++ [⟨pa, i - f, pq⟩]) → Below w.heap.size (wr.alloc (.cells #[.int .i64 k, .string (str tx), .int .i64 tn, .int .i64 ta, .int .i64 te] 49)) W → f < i → d = 0 → begK k = true → endK p = true → ClRel ts B w (.int .i64 ((i + 1 : Nat) : Int)) v' (.int .i64 (brk k)) (.int .i64 (i : Int)) W := by
    intro W v' h1 h2 g1 g2 g3 g4
    refine ⟨i + 1, i, brk k, k, _, done ++ [(f, i)], hlt, by omega, by have := HBK.out; omega, by have := HBK.out; omega, rfl, rfl, rfl, h1, ?_, ?_, HNX.out, by rw [List.length_append, List.length_singleton]; have := HDL.out; omega, HBX.out.trans h2⟩
    ·exact Pcs.low ((HPX.out).snoc (s := ⟨pa, i - f, pq⟩) (r := (f, i)) rfl HPRX.out) (h2.mono HBW.out)
    ·rw [HC.out, HD.out, clI, if_pos ⟨g1, g2, g3, g4⟩, g2, Int.zero_add, List.append_assoc]; rfl
   have hno : ∀ dd, dd = d → ¬ (f < i ∧ d = 0 ∧ begK k = true ∧ endK p = true) → ClRel ts B w (.int .i64 ((i + 1 : Nat) : Int)) (.slice OA sls.length oc) (.int .i64 (dd + brk k)) (.int .i64 (f : Int)) (wr.alloc (.cells #[.int .i64 k, .string (str tx), .int .i64 tn, .int .i64 ta, .int .i64 te] 49)) := by
    intro dd hdd hz
    subst hdd
    refine ⟨i + 1, f, dd + brk k, k, _, done, hlt, by omega, by have := HD12.out; have := HBK.out; omega, by have := HD12.out; have := HBK.out; omega, rfl, rfl, rfl, HOX.out, HPX.out, ?_, HNX.out, by have := HDL.out; omega, HBX.out⟩
    rw [HC.out, HD.out, clI, if_neg hz]
   have HY := LH hyes; have HN := LH hno
   clear hyes hno
   have e9 : ((i + 1 : Nat) : Int) = (i : Int) + 1 := by omega
   have E9 := LH e9
   clear e9
   have hsz6 := HBX.out.size
   have t0 : (wr.alloc (.cells #[.int .i64 k, .string (str tx), .int .i64 tn, .int .i64 ta, .int .i64 te] 49)).cell? ⟨wr.heap.size, 0, none⟩ = some (.int .i64 k) := HTX.out.cell 0
   by_cases hfi : f < i
   rotate_left
   ·have HR2 := LH (HN.out d rfl (fun h => hfi h.1))
    go_wp2_with fail
    clear c0 c1 c2 c3 c4
    generalize wr.alloc (.cells #[.int .i64 k, .string (str tx), .int .i64 tn, .int .i64 ta, .int .i64 te] 49) = w5 at *
    refine (rbracket_any k w5).mono ?_
    rintro e w6 ⟨rfl, rfl⟩
    go_wp2
    go_roundw
    case rel => rw [← E9.out]; exact HR2.out
    case measure => simp [intOf]; omega
   by_cases hz : d = 0
   rotate_left
   ·have HR2 := LH (HN.out d rfl (fun h => hz h.2.1))
    have z1 : (d == 0) = false := by simpa using hz
    go_wp2_with fail
    clear c0 c1 c2 c3 c4
    generalize wr.alloc (.cells #[.int .i64 k, .string (str tx), .int .i64 tn, .int .i64 ta, .int .i64 te] 49) = w5 at *
    refine (rbracket_any k w5).mono ?_
    rintro e w6 ⟨rfl, rfl⟩
    go_wp2
    go_roundw
    case rel => rw [← E9.out]; exact HR2.out
    case measure => simp [intOf]; omega
   subst hz
   cases hbg : begK k with
   | false =>
    have HR2 := LH (HN.out 0 rfl (fun h => by rw [hbg] at h; exact absurd h.2.2.1 (by decide)))
    rw [Int.zero_add] at HR2
    have HBG := LH hbg
    clear hbg
    go_wp2_with fail
    clear c0 c1 c2 c3 c4
    generalize wr.alloc (.cells #[.int .i64 k, .string (str tx), .int .i64 tn, .int .i64 ta, .int .i64 te] 49) = w5 at *
    refine (rbegins_any k w5).mono ?_
    rintro e w6 ⟨rfl, rfl⟩
    rw [HBG.out]
    go_wp2_with fail
    refine (rbracket_any k w5).mono ?_
    rintro e w6 ⟨rfl, rfl⟩
    go_wp2
    go_roundw
    case rel => rw [← E9.out]; exact HR2.out
    case measure => simp [intOf]; omega
   | true =>
    have HBG := LH hbg
    clear hbg
    obtain ⟨j, rfl⟩ : ∃ j, i = j + 1 := ⟨i - 1, by omega⟩
    have ej : ((j + 1 : Nat) : Int) = (j : Int) + 1 := by omega
    have EJ := LH (show ((j + 1 + 1 : Nat) : Int) = (j : Int) + 1 + 1 from by omega)
    have hrun2 := hrun
    simp only [ej] at hrun2
    have EJ0 := LH ej
    clear ej hrun
    obtain ⟨b, hbb, hbl, p0, -, -, -, -⟩ := at_lt HRX.out (show j < ts.length from by omega)
    obtain rfl : a = b := by injection hbb
    have hkp : ts[j].kind = p := HPK.out _ (by omega) (by rw [Nat.add_sub_cancel]; exact List.getElem?_eq_getElem (by omega))
    rw [hkp] at p0
    clear hkp hbb hbl
    cases hen : endK p with
    | false =>
     have HR2 := LH (HN.out 0 rfl (fun h => by rw [hen] at h; exact absurd h.2.2.2 (by decide)))
     rw [Int.zero_add] at HR2
     have HEN := LH hen
     clear hen
     go_wp2_with fail
     clear c0 c1 c2 c3 c4
     generalize wr.alloc (.cells #[.int .i64 k, .string (str tx), .int .i64 tn, .int .i64 ta, .int .i64 te] 49) = w5 at *
     refine (rbegins_any k w5).mono ?_
     rintro e w6 ⟨rfl, rfl⟩
     rw [HBG.out]
     go_wp2_with fail
     refine (rends_any p w5).mono ?_
     rintro e w6 ⟨rfl, rfl⟩
     rw [HEN.out]
     go_wp2_with fail
     refine (rbracket_any k w5).mono ?_
     rintro e w6 ⟨rfl, rfl⟩
     go_wp2
     go_roundw
     case rel => rw [← EJ.out]; exact HR2.out
     case measure => simp [intOf]; omega
    | true =>
     have HEN := LH hen
     clear hen
     have HFI := LH hfi
     go_wp2_with fail
     clear c0 c1 c2 c3 c4
     generalize wr.alloc (.cells #[.int .i64 k, .string (str tx), .int .i64 tn, .int .i64 ta, .int .i64 te] 49) = w5 at *
     refine (rbegins_any k w5).mono ?_
     rintro e w6 ⟨rfl, rfl⟩
     rw [HBG.out]
     go_wp2_with fail
     refine (rends_any p w5).mono ?_
     rintro e w6 ⟨rfl, rfl⟩
     rw [HEN.out]
     have HLT5 := LH HTX.out.lt
     go_wp2_with (at_builtin; refine OwnL.appendL slOk HOX.out ⟨pa, j + 1 - f, pq⟩ w5.heap.size rfl _ _ rfl rfl rfl #[.slice pa (j + 1 - f) pq] rfl rfl hsz6 HLB.out ?_)
     intro v' w' h2 h3 h3k h4
     have H2 := LH (HY.out w' v' h2 h3 HFI.out (by trivial) HBG.out HEN.out)
     have t1 := (h3k.cell (b := wr.heap.size) (o := 0) HLT5.out (fun e => absurd (World.ownsRow.lt HO.out _ e).2 (Nat.lt_irrefl _))).trans t0
     clear h2 h3 h3k h4 t0
     go_wp2_with fail
     refine (rbracket_any k w').mono ?_
     rintro e w6 ⟨rfl, rfl⟩
     go_wp2
     go_roundw
     case rel => rw [← EJ.out, ← EJ0.out]; exact H2.out
     case measure => simp [intOf]; omega
  ·have hie : i = ts.length := by omega
   obtain ⟨pa, pq, hpr, hrun⟩ := lt_from HRR.out (show f ≤ ts.length from by omega)
   have HPR := LH hpr
   have HLB := LH (show sls.length + 1 ≤ 100000000000 from by have := HSL.out; have := HDL.out; omega)
   have hfin : ∀ W v', OwnL slS W w.heap.size v' (sls ++ [⟨pa, ts.length - f, pq⟩]) → Below w.heap.size wr W → CutRet ts (clI 0 0 0 0 ts) B w (.returned v') W := by
    intro W v' h1 h2
    refine ⟨HB.out.trans h2, v', _, rfl, h1, ?_⟩
    have hc : clI 0 0 0 0 ts = done ++ [(f, ts.length)] := by rw [HC.out, hie, List.drop_length, clI]
    rw [hc]
    refine Pcs.low (HP.out.snoc (s := ⟨pa, ts.length - f, pq⟩) (r := (f, ts.length)) rfl ?_) (h2.mono HBW.out)
    have e0 : pc ts f ts.length = ts.drop f := by unfold pc; exact List.take_of_length_le (by rw [List.length_drop]; omega)
    rw [e0]; exact HPR.out
   have HF := LH hfin
   have hnn : decide (i < ts.length) = false := decide_eq_false hlt
   clear hpr hfin hie
   go_wp2_with (at_builtin; refine OwnL.appendL slOk HO.out ⟨pa, ts.length - f, pq⟩ wr.heap.size rfl _ _ rfl rfl rfl #[.slice pa (ts.length - f) pq] rfl rfl hBr HLB.out ?_; intro v' w' h2 h3 h3k h4; have H2 := LH (HF.out w' v' h2 h3); clear h2 h3 h3k h4)
   go_ret
   exact H2.out
end Go.Proofs.YtcomdkejpaoneaaDoor
end
section
namespace Go.Proofs.YtcomdkejpaoneaaDoor
open Go.RowKit
set_option maxRecDepth 100000
set_option maxHeartbeats 4000000
set_option linter.unusedSimpArgs false
set_option linter.unusedVariables false
theorem side_star {t : Lt} (h : sideT t = true) (i : Bool) : sideN t i = if starT t = true then ⟨true, false, []⟩ else ⟨false, i, t.text⟩ := by
 unfold sideT at h
 unfold sideN
 by_cases hk : t.kind = 2
 ·have : starT t = true := by simpa [hk] using h
  rw [if_pos hk, if_pos this]
 ·rw [if_neg hk, if_neg (by rw [starT_no hk]; decide)]
theorem rside_any (t : Lt) (i : Bool) (w : World) (hs : sideT t = true) : Calls Tryd.prog 108 #[ltVal t, .bool i] w fun e w' => e = .returned (bdVal (sideN t i)) ∧ Below w.heap.size w w' := by
 have HS := LH (side_star hs i)
 clear hs
 obtain ⟨k, tx, n, a, b⟩ := t
 unfold ltVal
 simp only []
 have HX := LH (show Below w.heap.size w ((w.alloc (.cells #[.int .i64 k, .string (str tx), .int .i64 n, .int .i64 a, .int .i64 b] 49)).alloc (.cells #[.bool false, .bool false, .string ⟨#[]⟩] 32)) from ((Below.refl _ _).alloc (Nat.le_refl _) _).alloc (by rw [World.size_alloc]; omega) _)
 have HTX := LH ((Blk.new w 49 #[.int .i64 k, .string (str tx), .int .i64 n, .int .i64 a, .int .i64 b]).alloc (.cells #[.bool false, .bool false, .string ⟨#[]⟩] 32))
 have HBX := LH (Blk.new (w.alloc (.cells #[.int .i64 k, .string (str tx), .int .i64 n, .int .i64 a, .int .i64 b] 49)) 32 #[.bool false, .bool false, .string ⟨#[]⟩])
 have HST := LH (rstar_any ⟨k, tx, n, a, b⟩ ((w.alloc (.cells #[.int .i64 k, .string (str tx), .int .i64 n, .int .i64 a, .int .i64 b] 49)).alloc (.cells #[.bool false, .bool false, .string ⟨#[]⟩] 32)))
 cases hst : starT ⟨k, tx, n, a, b⟩ with
 | true =>
  have HV := LH hst
  have HR := LH (show sideN ⟨k, tx, n, a, b⟩ i = ⟨true, false, []⟩ from by rw [HS.out, if_pos hst])
  clear hst
  rw [HR.out]
  go_enter Tryd.func108, Tryd.ntmps108
  go_wp2_with fail
  refine HST.out.mono ?_
  rintro e w2 ⟨rfl, hb2⟩
  rw [HV.out]
  have HB2 := LH (HX.out.trans (hb2.mono HX.out.size))
  have hsz2 := HB2.out.size
  have hzz := HBX.out.below hb2 HBX.out.lt
  have z0 := hzz.cell 0; have z1 := hzz.cell 1; have z2 := hzz.cell 2
  have fz0 := hzz.frozen 0; have fz1 := hzz.frozen 1; have fz2 := hzz.frozen 2
  have lz := hzz.lt
  simp only [List.getElem?_toArray, List.getElem?_cons_zero, List.getElem?_cons_succ, World.size_alloc] at z0 z1 z2 fz0 fz1 fz2 lz
  clear hb2 hzz
  go_wp2
  refine bodyPost_ret (v := .agg #[.bool true, .bool false, .string ⟨#[]⟩]) ?_ rfl ?_
  ·simp [results, Tryd.results108, go_sem, World.cell?_alloc_new, lz, fz0, fz1, fz2, z0, z1, z2]
  ·refine ⟨rfl, ?_⟩
   repeat (first | with_reducible exact HB2.out | with_reducible refine Below.setCell ?_ (by show w.heap.size ≤ w.heap.size + 1; exact Nat.le_succ _) _)
 | false =>
  have HV := LH hst
  have HR := LH (show sideN ⟨k, tx, n, a, b⟩ i = ⟨false, i, tx⟩ from by rw [HS.out, if_neg (by rw [hst]; decide)])
  clear hst
  rw [HR.out]
  go_enter Tryd.func108, Tryd.ntmps108
  go_wp2_with fail
  refine HST.out.mono ?_
  rintro e w2 ⟨rfl, hb2⟩
  rw [HV.out]
  have HB2 := LH (HX.out.trans (hb2.mono HX.out.size))
  have hsz2 := HB2.out.size
  have HT2 := HTX.out.below hb2 HTX.out.lt
  have t1 := HT2.cell 1
  have lt1 := HT2.lt
  simp only [List.getElem?_toArray, List.getElem?_cons_zero, List.getElem?_cons_succ] at t1
  have hzz := HBX.out.below hb2 HBX.out.lt
  have z0 := hzz.cell 0; have z1 := hzz.cell 1; have z2 := hzz.cell 2
  have fz0 := hzz.frozen 0; have fz1 := hzz.frozen 1; have fz2 := hzz.frozen 2
  have lz := hzz.lt
  simp only [List.getElem?_toArray, List.getElem?_cons_zero, List.getElem?_cons_succ, World.size_alloc] at z0 z1 z2 fz0 fz1 fz2 lz
  clear hb2 HT2 hzz
  go_wp2
  refine bodyPost_ret (v := .agg #[.bool false, .bool i, .string (str tx)]) ?_ rfl ?_
  ·simp [results, Tryd.results108, go_sem, World.cell?_alloc_new, lz, fz0, fz1, fz2, z0, z1, z2]
  ·refine ⟨rfl, ?_⟩
   repeat (first | with_reducible exact HB2.out | with_reducible refine Below.setCell ?_ (by show w.heap.size ≤ w.heap.size + 1; exact Nat.le_succ _) _)
end Go.Proofs.YtcomdkejpaoneaaDoor
end
section
namespace Go.Proofs.YtcomdkejpaoneaaDoor
open Go.RowKit
set_option maxRecDepth 100000
set_option maxHeartbeats 4000000
set_option linter.unusedSimpArgs false
set_option linter.unusedVariables false
theorem OwnB.farB {w : World} {B : Nat} {v : Value} {l : List UInt8} (h : OwnB w B v l) {p : Addr} (hp : p.block < B) (u : Value) : OwnB (w.setCell p u) B v l := by
 refine ⟨h.1, ?_⟩
 rcases h.2 with h2 | ⟨g, cap, cur, hv, hg, hh, r⟩
 ·exact Or.inl h2
 ·exact Or.inr ⟨g, cap, cur, hv, hg, (Below.heap_setCell w p u g (by omega)).trans hh, r⟩
def PatL (f : List UInt8) (s : ByteArray) (w1 : World) (lv iv : Value) (wr : World) : Prop :=
 ∃ (i : Nat) (L : List UInt8), i ≤ s.size ∧ iv = .int .i64 (i : Int) ∧ OwnB wr w1.heap.size lv L ∧ L.length ≤ i ∧ patF f s.data.toList [] s.data.toList = patF f s.data.toList L (s.data.toList.drop i) ∧ Below w1.heap.size w1 wr
theorem rpatterned_any (f : List UInt8) (s : ByteArray) (w : World) (hs : s.size ≤ 10000000) :
  Calls Tryd.prog 110 #[.agg #[.int .i64 0, .string (str f), .string s, .int .i64 0, .bool false, .bool false, .string ⟨#[]⟩, .bool false, .bool false, .string ⟨#[]⟩, .slice none 0 0, .slice none 0 0]] w (PatRet (patN f s.data.toList) w) := by
 have HB1 := LH (show Below w.heap.size w ((w.alloc (.cells #[.int .i64 0, .string (str f), .string s, .int .i64 0, .bool false, .bool false, .string ⟨#[]⟩, .bool false, .bool false, .string ⟨#[]⟩, .slice none 0 0, .slice none 0 0] 36)).alloc zO) from ((Below.refl _ _).alloc (Nat.le_refl _) _).alloc (by rw [World.size_alloc]; omega) _)
 by_cases hst : s.data.toList = [42]
 ·have e1 : (s.toList == [42]) = true := by rw [ba_toList, hst]; rfl
  have HR := LH (show patN f s.data.toList = ndLeaf 7 f [] 0 from by unfold patN; rw [if_pos hst])
  clear hst
  go_enter Tryd.func110, Tryd.ntmps110
  go_wp2
  refine bodyPost_ret (v := (nvLeaf 7 f [] 0).val) ?_ rfl ?_
  ·simp [results, Tryd.results110, go_sem, World.cell?_alloc_new, NV.val, nvLeaf, bd0, str]
  ·refine ⟨?_, _, _, _, HR.out, rfl⟩
   exact ((Below.refl _ _).alloc (Nat.le_refl _) _).alloc (by rw [World.size_alloc]; omega) _
 have e1 : (s.toList == [42]) = false := by rw [ba_toList]; simpa using hst
 have HPN := LH (show patN f s.data.toList = patF f s.data.toList [] s.data.toList from by unfold patN; rw [if_neg hst])
 have HSL := LH (ba_size s)
 have HSTR := LH (show str s.data.toList = s from rfl)
 clear hst
 have HX := LH ((Blk.new w 36 #[.int .i64 0, .string (str f), .string s, .int .i64 0, .bool false, .bool false, .string ⟨#[]⟩, .bool false, .bool false, .string ⟨#[]⟩, .slice none 0 0, .slice none 0 0]).alloc zO)
 have HZ := LH (Blk.new (w.alloc (.cells #[.int .i64 0, .string (str f), .string s, .int .i64 0, .bool false, .bool false, .string ⟨#[]⟩, .bool false, .bool false, .string ⟨#[]⟩, .slice none 0 0, .slice none 0 0] 36)) 36 zA)
 go_enter Tryd.func110, Tryd.ntmps110
 go_upto_region 5 with (fail)
 have e0 : (w.alloc (.cells #[.int .i64 0, .string (str f), .string s, .int .i64 0, .bool false, .bool false, .string ⟨#[]⟩, .bool false, .bool false, .string ⟨#[]⟩, .slice none 0 0, .slice none 0 0] 36)).heap.size = w.heap.size + 1 := by rw [World.size_alloc]
 rw [e0] at HZ
 clear e0
 generalize (w.alloc (.cells #[.int .i64 0, .string (str f), .string s, .int .i64 0, .bool false, .bool false, .string ⟨#[]⟩, .bool false, .bool false, .string ⟨#[]⟩, .slice none 0 0, .slice none 0 0] 36)).alloc zO = w1 at *
 have HO1 := LH (OwnB.lit0 w1 (Nat.le_refl _))
 have HB0 := LH (show Below w1.heap.size w1 (w1.alloc (.cells #[] 5)) from (Below.refl _ _).alloc (Nat.le_refl _) _)
 go_wp2
 go_loopw [3, 4] (fun lv iv wr => PatL f s w1 lv iv wr) (fun _ iv _ => s.size - (intOf iv).toNat)
 case atStart => exact ⟨0, [], Nat.zero_le _, rfl, HO1.out, Nat.zero_le _, rfl, HB0.out⟩
 case round =>
  obtain ⟨i, L, hi, rfl, ho, hLi, hp, hb⟩ := hrel
  have HO := LH ho; have HP := LH hp; have HB := LH hb
  have HBW := LH (HB1.out.trans (hb.mono HB1.out.size))
  have hsz : w1.heap.size ≤ wr.heap.size := hb.size
  have hzz := HZ.out.below hb HZ.out.lt
  have z0 := hzz.cell 0; have z1 := hzz.cell 1; have z2 := hzz.cell 2; have z3 := hzz.cell 3; have z4 := hzz.cell 4; have z5 := hzz.cell 5; have z6 := hzz.cell 6; have z7 := hzz.cell 7; have z8 := hzz.cell 8; have z9 := hzz.cell 9; have z10 := hzz.cell 10; have z11 := hzz.cell 11
  have fz0 := hzz.frozen 0; have fz1 := hzz.frozen 1; have fz2 := hzz.frozen 2; have fz3 := hzz.frozen 3; have fz4 := hzz.frozen 4; have fz5 := hzz.frozen 5; have fz6 := hzz.frozen 6; have fz7 := hzz.frozen 7; have fz8 := hzz.frozen 8; have fz9 := hzz.frozen 9; have fz10 := hzz.frozen 10; have fz11 := hzz.frozen 11
  have lz := hzz.lt
  have hxx := HX.out.below hb HX.out.lt
  have x0 := hxx.cell 0; have x1 := hxx.cell 1; have x2 := hxx.cell 2; have x3 := hxx.cell 3; have x4 := hxx.cell 4; have x5 := hxx.cell 5; have x6 := hxx.cell 6; have x7 := hxx.cell 7; have x8 := hxx.cell 8; have x9 := hxx.cell 9; have x10 := hxx.cell 10; have x11 := hxx.cell 11
  have fx0 := hxx.frozen 0; have fx1 := hxx.frozen 1; have fx2 := hxx.frozen 2; have fx3 := hxx.frozen 3; have fx4 := hxx.frozen 4; have fx5 := hxx.frozen 5; have fx6 := hxx.frozen 6; have fx7 := hxx.frozen 7; have fx8 := hxx.frozen 8; have fx9 := hxx.frozen 9; have fx10 := hxx.frozen 10; have fx11 := hxx.frozen 11
  have lx := hxx.lt
  simp only [List.getElem?_toArray, List.getElem?_cons_zero, List.getElem?_cons_succ] at z0 z1 z2 z3 z4 z5 z6 z7 z8 z9 z10 z11 x0 x1 x2 x3 x4 x5 x6 x7 x8 x9 x10 x11
  have hwk : IntKind.i64.wrap ((i : Int) + 1) = (i : Int) + 1 := IntWalk.i64_in _ (by omega)
  obtain ⟨A5, c5, rfl⟩ := ownB_frm ho
  clear ho hp hb hzz hxx
  by_cases hlt : i < s.size
  ·skip
   have hbx := u8_lt s[i]
   have HD := LH (show s.data.toList.drop i = s[i] :: s.data.toList.drop (i + 1) from by rw [List.drop_eq_getElem_cons (show i < s.data.toList.length from by rw [← ba_size]; exact hlt)]; rfl)
   have u63 := u8_eq s[i] 63 (by omega)
   have u42 := u8_eq s[i] 42 (by omega)
   have u92 := u8_eq s[i] 92 (by omega)
   have HPD := LH (show patF f s.data.toList [] s.data.toList = patF f s.data.toList L (s[i] :: s.data.toList.drop (i + 1)) from by rw [HP.out, HD.out])
   have HU := LH (And.intro u63 (And.intro u42 u92))
   clear u63 u42 u92
   have hnil : (s.data.toList.drop (i + 1) = [] ∧ ¬ i + 1 < s.size) ∨ (∃ d r, i + 1 < s.size ∧ s.data.toList.drop (i + 1) = d :: r) := by
    by_cases h : i + 1 < s.size
    ·right
     have h2 : i + 1 < s.data.toList.length := by rw [← ba_size]; exact h
     exact ⟨_, _, h, List.drop_eq_getElem_cons h2⟩
    ·left
     exact ⟨List.drop_eq_nil_of_le (by rw [← ba_size]; omega), h⟩
   have HNIL := LH hnil
   clear hnil
   by_cases h63 : s[i] = 63
   ·have e63 : ((s[i].toNat : Int) == 63) = true := by have := HU.out.1; rw [h63] at this ⊢; rfl
    have HR := LH (show patN f s.data.toList = ndLeaf 4 f s.data.toList 0 from by
     rw [HPN.out, HPD.out]
     rcases HNIL.out with ⟨h, _⟩ | ⟨d, r, _, h⟩
     ·rw [h, patF, if_neg (by rw [h63]; decide)]
     ·rw [h, patF, if_pos (.inl h63)])
    clear h63
    go_wp2
    refine bodyPost_ret (v := (nvLeaf 4 f s.data.toList 0).val) ?_ rfl ?_
    ·simp [results, Tryd.results110, go_sem, NV.val, nvLeaf, bd0, str, lx, fx0, fx1, fx2, fx3, fx4, fx5, fx6, fx7, fx8, fx9, fx10, fx11, x0, x1, x2, x3, x4, x5, x6, x7, x8, x9, x10, x11, lz, fz0, fz1, fz2, fz3, fz4, fz5, fz6, fz7, fz8, fz9, fz10, fz11, z0, z1, z2, z3, z4, z5, z6, z7, z8, z9, z10, z11]
    ·refine ⟨?_, _, _, _, HR.out, rfl⟩
     repeat (first | with_reducible exact HBW.out | with_reducible refine Below.setCell ?_ (by first | (show w.heap.size ≤ w.heap.size; exact Nat.le_refl _) | (show w.heap.size ≤ w.heap.size + 1; exact Nat.le_succ _)) _)
   have e63 : ((s[i].toNat : Int) == 63) = false := HU.out.1.trans (decide_eq_false h63)
   by_cases h42 : s[i] = 42
   ·have e42 : ((s[i].toNat : Int) == 42) = true := by rw [h42]; rfl
    rcases HNIL.out with ⟨hd, hn⟩ | ⟨d, r, hn, hd⟩
    ·have HR := LH (show patN f s.data.toList = ndLeaf 3 f L 0 from by rw [HPN.out, HPD.out, hd, patF, if_pos h42])
     have HC := LH HO.out.conv
     have hcv := fun (W : World) (hW : OwnB W w1.heap.size (.slice A5 L.length c5) L) => hW.conv
     have hcv2 := ((HO.out.farB (p := ⟨w.heap.size, 0, none⟩) HX.out.lt (.int .i64 4)).farB (p := ⟨w.heap.size, 0, none⟩) HX.out.lt (.int .i64 3)).conv
     clear h42 h63 hd hcv
     have e3 : ((i : Int) == (s.size : Int) - 1) = true := by simp; omega
     have hwm : IntKind.i64.wrap ((s.size : Int) - 1) = (s.size : Int) - 1 := IntWalk.i64_in _ (by omega)
     go_wp2
     refine bodyPost_ret (v := (nvLeaf 3 f L 0).val) ?_ rfl ?_
     ·simp [results, Tryd.results110, go_sem, NV.val, nvLeaf, bd0, str, lx, fx0, fx1, fx2, fx3, fx4, fx5, fx6, fx7, fx8, fx9, fx10, fx11, x0, x1, x2, x3, x4, x5, x6, x7, x8, x9, x10, x11, lz, fz0, fz1, fz2, fz3, fz4, fz5, fz6, fz7, fz8, fz9, fz10, fz11, z0, z1, z2, z3, z4, z5, z6, z7, z8, z9, z10, z11]
     ·refine ⟨?_, _, _, _, HR.out, rfl⟩
      repeat (first | with_reducible exact HBW.out | with_reducible refine Below.setCell ?_ (by first | (show w.heap.size ≤ w.heap.size; exact Nat.le_refl _) | (show w.heap.size ≤ w.heap.size + 1; exact Nat.le_succ _)) _)
    ·have HR := LH (show patN f s.data.toList = ndLeaf 4 f s.data.toList 0 from by rw [HPN.out, HPD.out, hd, patF, if_pos (.inr h42)])
     have e3 : ((i : Int) == (s.size : Int) - 1) = false := by simp; omega
     have hwm : IntKind.i64.wrap ((s.size : Int) - 1) = (s.size : Int) - 1 := IntWalk.i64_in _ (by omega)
     clear h42 h63 hd
     go_wp2
     refine bodyPost_ret (v := (nvLeaf 4 f s.data.toList 0).val) ?_ rfl ?_
     ·simp [results, Tryd.results110, go_sem, NV.val, nvLeaf, bd0, str, lx, fx0, fx1, fx2, fx3, fx4, fx5, fx6, fx7, fx8, fx9, fx10, fx11, x0, x1, x2, x3, x4, x5, x6, x7, x8, x9, x10, x11, lz, fz0, fz1, fz2, fz3, fz4, fz5, fz6, fz7, fz8, fz9, fz10, fz11, z0, z1, z2, z3, z4, z5, z6, z7, z8, z9, z10, z11]
     ·refine ⟨?_, _, _, _, HR.out, rfl⟩
      repeat (first | with_reducible exact HBW.out | with_reducible refine Below.setCell ?_ (by first | (show w.heap.size ≤ w.heap.size; exact Nat.le_refl _) | (show w.heap.size ≤ w.heap.size + 1; exact Nat.le_succ _)) _)
   have e42 : ((s[i].toNat : Int) == 42) = false := HU.out.2.1.trans (decide_eq_false h42)
   by_cases h92 : s[i] = 92
   ·have e92 : ((s[i].toNat : Int) == 92) = true := by rw [h92]; rfl
    rcases HNIL.out with ⟨hd, hn⟩ | ⟨d, r, hn, hd⟩
    ·have HR := LH (show patN f s.data.toList = ndLeaf 4 f s.data.toList 0 from by rw [HPN.out, HPD.out, hd, patF, if_neg h42])
     have e3 : ((i : Int) + 1 == (s.size : Int)) = true := by simp; omega
     clear h42 h63 h92 hd
     go_wp2
     refine bodyPost_ret (v := (nvLeaf 4 f s.data.toList 0).val) ?_ rfl ?_
     ·simp [results, Tryd.results110, go_sem, NV.val, nvLeaf, bd0, str, lx, fx0, fx1, fx2, fx3, fx4, fx5, fx6, fx7, fx8, fx9, fx10, fx11, x0, x1, x2, x3, x4, x5, x6, x7, x8, x9, x10, x11, lz, fz0, fz1, fz2, fz3, fz4, fz5, fz6, fz7, fz8, fz9, fz10, fz11, z0, z1, z2, z3, z4, z5, z6, z7, z8, z9, z10, z11]
     ·refine ⟨?_, _, _, _, HR.out, rfl⟩
      repeat (first | with_reducible exact HBW.out | with_reducible refine Below.setCell ?_ (by first | (show w.heap.size ≤ w.heap.size; exact Nat.le_refl _) | (show w.heap.size ≤ w.heap.size + 1; exact Nat.le_succ _)) _)
   
    ·have hdv : d = s[i + 1] ∧ r = s.data.toList.drop (i + 2) := by
      have h := hd
      rw [List.drop_eq_getElem_cons (show i + 1 < s.data.toList.length from by rw [← ba_size]; exact hn)] at h
      injection h with h1 h2
      exact ⟨h1.symm, h2.symm⟩
     have HN2 := LH (show patF f s.data.toList [] s.data.toList = patF f s.data.toList (L ++ [s[i + 1]]) (s.data.toList.drop (i + 2)) from by
      rw [HPD.out, hd, patF, if_neg (by rw [not_or]; exact ⟨h63, h42⟩), if_pos h92, ← hdv.1, ← hdv.2])
     have hbx2 := u8_lt s[i + 1]
     have e3 : ((i : Int) + 1 == (s.size : Int)) = false := by simp; omega
     have hwk2 : IntKind.i64.wrap ((i : Int) + 1 + 1) = (i : Int) + 1 + 1 := IntWalk.i64_in _ (by omega)
     clear h92 h63 h42 hd hdv
     go_wp2_with (at_builtin; refine OwnB.append HO.out s[i + 1].toNat (by omega) (by omega) rfl _ _ rfl rfl rfl hsz ?_ ?_)
     ·omega
     ·intro v' w' h2 h3
      have H2 := LH h2; have HB3 := LH (HB.out.trans h3)
      clear h2 h3
      go_wp2
      go_roundw
      case rel => exact ⟨i + 2, L ++ [s[i + 1]], by omega, by go_num, by have h := H2.out; simpa using h, by rw [List.length_append, List.length_singleton]; omega, HN2.out, HB3.out⟩
      case measure => simp [intOf]; omega
   have e92 : ((s[i].toNat : Int) == 92) = false := HU.out.2.2.trans (decide_eq_false h92)
   have HN2 := LH (show patF f s.data.toList [] s.data.toList = patF f s.data.toList (L ++ [s[i]]) (s.data.toList.drop (i + 1)) from by
    rw [HPD.out]
    rcases HNIL.out with ⟨hd, _⟩ | ⟨d, r, _, hd⟩
    ·rw [hd]; unfold patF; rw [if_neg h42]
    ·rw [hd, patF, if_neg (by rw [not_or]; exact ⟨h63, h42⟩), if_neg h92])
   clear h92 h63 h42
   go_wp2_with (at_builtin; refine OwnB.append HO.out s[i].toNat (by omega) (by omega) rfl _ _ rfl rfl rfl hsz ?_ ?_)
   ·omega
   ·intro v' w' h2 h3
    have H2 := LH h2; have HB3 := LH (HB.out.trans h3)
    clear h2 h3
    go_wp2
    go_roundw
    case rel => exact ⟨i + 1, L ++ [s[i]], by omega, by go_num, by have h := H2.out; simpa using h, by rw [List.length_append, List.length_singleton]; omega, HN2.out, HB3.out⟩
    case measure => simp [intOf]; omega
  ·have HR := LH (show patN f s.data.toList = ndLeaf 4 f s.data.toList 0 from by rw [HPN.out, HP.out, List.drop_eq_nil_of_le (by rw [← ba_size]; omega), patF])
   go_wp2
   refine bodyPost_ret (v := (nvLeaf 4 f s.data.toList 0).val) ?_ rfl ?_
   ·simp [results, Tryd.results110, go_sem, NV.val, nvLeaf, bd0, str, lx, fx0, fx1, fx2, fx3, fx4, fx5, fx6, fx7, fx8, fx9, fx10, fx11, x0, x1, x2, x3, x4, x5, x6, x7, x8, x9, x10, x11, lz, fz0, fz1, fz2, fz3, fz4, fz5, fz6, fz7, fz8, fz9, fz10, fz11, z0, z1, z2, z3, z4, z5, z6, z7, z8, z9, z10, z11]
   ·refine ⟨?_, _, _, _, HR.out, rfl⟩
    repeat (first | with_reducible exact HBW.out | with_reducible refine Below.setCell ?_ (by first | (show w.heap.size ≤ w.heap.size; exact Nat.le_refl _) | (show w.heap.size ≤ w.heap.size + 1; exact Nat.le_succ _)) _)
end Go.Proofs.YtcomdkejpaoneaaDoor
end
