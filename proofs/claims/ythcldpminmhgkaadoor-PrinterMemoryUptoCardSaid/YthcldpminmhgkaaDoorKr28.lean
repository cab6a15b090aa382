/- Merged for a claim by shake.py: Jae -/
import Derived.Test.YthcldpminmhgkaaDoorKrA
import Derived.Test.YthcldpminmhgkaaDoorKr27
set_option maxRecDepth 100000
set_option maxHeartbeats 4000000
set_option linter.unusedSimpArgs false
set_option linter.unusedVariables false
section
namespace Go.Proofs.YthcldpminmhgkaaDoor
open Go.RowKit
theorem RdF.belowB {α : Type} {S : Shape α} {w w' : World} {B : Nat} {s : Sl} {l : List α} (h : RdF S w (fun b => b < B) s l) (hb : Below B w w') : RdF S w' (fun b => b < B) s l := h.keep fun p hp _ => hb.cell hp
theorem KidsR.belowB {w w' : World} {B : Nat} {A : Option Addr} {c : Nat} {ks : List Nd} (h : KidsR w (fun b => b < B) A c ks) (hb : Below B w w') : KidsR w' (fun b => b < B) A c ks := by
 obtain ⟨nl, h1, h2, h3⟩ := h
 exact ⟨nl, h1.belowB hb, h2, fun i x t hx ht => (h3 i x t hx ht).belowB hb⟩
theorem formNs_at {kind : Int} {b : Bool} {occ : List Int} {ks : List Nd} {j : Nat} (h : j < ks.length) : formNs kind b (occ.drop j) (ks.drop j) = (if b = true then [] else sepF kind) ++ ((if kind = 9 then signF (occ.getD j 0) else []) ++ (brF (decide (levN ks[j] < barK kind (occ.getD j 0))) (formN ks[j]) ++ formNs kind false (occ.drop (j + 1)) (ks.drop (j + 1)))) := by
 rw [List.drop_eq_getElem_cons h, formNs]
 have e1 : (occ.drop j).headD 0 = occ.getD j 0 := by rw [List.headD_eq_head?_getD, List.head?_drop, List.getD_eq_getElem?_getD]
 have e2 : (occ.drop j).tail = occ.drop (j + 1) := by rw [List.tail_drop]
 rw [e1, e2, List.append_assoc, List.append_assoc]
def FsRel (kind : Int) (occ : List Int) (ks : List Nd) (T : List UInt8) (B : Nat) (w : World) (cs : Array Value) (ov iv : Value) (wr : World) : Prop := ∃ (j : Nat) (m : List UInt8), j ≤ ks.length ∧ iv = .int .i64 (j : Int) ∧ OwnB wr B ov m ∧ m ++ formNs kind (decide (j = 0)) (occ.drop j) (ks.drop j) = T ∧ Below B w wr ∧ Oth w wr ∧ Blk wr w.heap.size 27 cs
theorem OwnB.runStrU {w : World} {B : Nat} {v : Value} {l : List UInt8} (h : OwnB w B v l) (s : ByteArray) (ty : TypeId) (hB : B ≤ w.heap.size) (hl : l.length + s.size ≤ 140737488355328) :
  ∃ v' w', (Builtin.append_ #[64, 9] ty #[v, .string s]).run Tryd.prog w = .ok v' w' ∧ OwnB w' B v' (l ++ s.data.toList) ∧ Below B w w' ∧ KeptBut w w' v := by
 obtain ⟨i0, hi, hz0, hz1, hz2⟩ := info_parts infoB
 have hlt := h.lt
 obtain ⟨v', w', h1, h2, h3, _⟩ := Lib.run_append_own_string (P := Tryd.prog) w B 64 9 ty 5 i0 Tryd.underlying64 Tryd.underlying9 hi hz0 hz1 hz2 v l.length (byteVals l) h s (by unfold maxLen; omega) (by omega) hB
 refine ⟨v', w', h1, ?_, (Below.refl _ _).grown h3 hB (fun g hg => (hlt g hg).1), fun b hb hv => h3.block b hb (fun e => hv e.symm)⟩
 unfold OwnB
 have e : (l ++ s.data.toList).length = l.length + s.size := by rw [List.length_append, Array.length_toList]; rfl
 rw [e, show byteVals (l ++ s.data.toList) = byteVals l ++ Lib.strCells s from by unfold byteVals Lib.strCells; rw [List.map_append]]
 exact h2
theorem OwnB.stepStrU {w : World} {B : Nat} {v : Value} {l : List UInt8} (h : OwnB w B v l) (s : ByteArray) {ops : Array Oper} {o : Oper} {a : Act} {K : Act → World → Prop} {Q : Exit → Act → World → Prop} {E : Prop} (hgd : o.guard = none) (sl y : Operand)
  (ho : o.op = .call { callee := .builtin .append, args := #[sl, y], argTypes := #[64, 9] }) (hs : a.eval sl = v) (hy : a.eval y = .string s) (hB : B ≤ w.heap.size) (hl : l.length + s.size ≤ 140737488355328)
  (k : ∀ v' w', OwnB w' B v' (l ++ s.data.toList) → Below B w w' → KeptBut w w' v → K (a.put o.dst v') w') :
  if Region.wanted o (yielded ops a.tmps) = true then Oper.wp Tryd.prog o a w K Q else E := by
 simp only [Region.wanted, hgd, if_true]
 obtain ⟨v', w', hr, h2, h3, h4⟩ := h.runStrU s o.type hB hl
 unfold Oper.wp execOp
 simp only [ho, resolve, invoke, builtin, Sem.run_bind, Sem.run_pure, Result.andThen_ok, List.map_toArray, List.map_cons, List.map_nil, hs, hy, hr]
 exact k _ _ h2 h3 h4
theorem Oth.undrew {w w' : World} (h : Oth w.drew w') : Oth w w' := h
theorem appintU (n : Nat) (hn : n < 9223372036854775808) (v : Value) (B : Nat) (l : List UInt8) (w : World) (hE : PrEnv w B) (ho : OwnB w B v l) (hB : B ≤ w.heap.size) (hl : l.length ≤ 100000000000100) :
  Calls Tryd.prog 56 #[v, .int .i64 (n : Int), .int .i64 10] w (RetU w B (l ++ decN n)) := by
 refine (Tryd.strconv_AppendInt_10 B l.length (n : Int) (by omega) (by omega) v (byteVals l) w ho hB (by omega) (fun w' hb => hE.pow.belowB hE.h3 hb)).mono ?_
 rintro e w' ⟨v', rfl, ho', hb, hk⟩
 rw [Lib.itoa_nonneg] at ho'
 refine ⟨v', rfl, ?_, hb, hk⟩
 unfold OwnB
 rw [List.length_append, show byteVals (l ++ decN n) = byteVals l ++ Lib.byteCells (Lib.decDigits n) from by unfold byteVals Lib.byteCells decN; rw [List.map_append]]
 exact ho'
theorem add0 (a : Addr) : a.add 0 = a := by unfold Addr.add; rfl
theorem list_of (n : Int) (field text : List UInt8) (lo hi : Bd) (occ : List Int) (ks : List Nd) (hkd : KdOk 9 n field text lo hi occ ks) (w : World) (B : Nat) (oa ka : Option Addr) (oc kc : Nat) (v : Value) (l : List UInt8) (hO : RdF folS w (fun b => b < B) ⟨oa, occ.length, oc⟩ occ) (hK : KidsR w (fun b => b < B) ka kc ks) (hbk : bkNs ks ≤ 300000000000) (hg : goodN (.mk 9 field text n lo hi occ ks) = true) (hE : PrEnv w B) (hv : OwnB w B v l) (hB : B ≤ w.heap.size) (hlen : l.length + (aroundF 9 n (formNs 9 true occ ks)).length ≤ 100000000000000) :
  Calls Tryd.prog 54 #[v, .agg #[.int .i64 9, .string (str field), .string (str text), .int .i64 n, .bool lo.open_, .bool lo.in_, .string (str lo.text), .bool hi.open_, .bool hi.in_, .string (str hi.text), .slice oa occ.length oc, .slice ka ks.length kc]] w (RetU w B (l ++ aroundF 9 n (formNs 9 true occ ks))) := by
 have hgd := hg
 rw [goodN, Bool.and_eq_true] at hgd
 obtain ⟨hol, hx2, hn0, hn9⟩ : occ.length = ks.length ∧ (∀ o ∈ occ, 0 ≤ o ∧ o ≤ 2) ∧ 0 ≤ n ∧ n ≤ 999999999 := by
  rcases own_cases hgd.1 with ⟨_, _, h0, _, h⟩ | ⟨h9, h15, _, _, _, _, h1, h2, _, h, _⟩
  ·omega
  ·exact ⟨(h rfl).1, (h rfl).2, h1, h2⟩
 have hkl : ks.length ≤ 9223372036854775807 := by have h := Nat.le_trans hK.len.1 hK.len.2; unfold maxLen at h; omega
 have HX2 := LH hx2
 have HOL := LH hol
 have HKK := LH (fun (W : World) (hW : Below B w W) (u : Value) (q : List UInt8) (j : Nat) (hj : j < ks.length) (hq : q.length + (brF (decide (levN ks[j] < barK 9 (occ.getD j 0))) (formN ks[j])).length ≤ 100000000000000) (hu : OwnB W B u q) => hkd W B oa ka oc kc u q j hj (hO.belowB hW) (hK.belowB hW) hbk hg (hE.belowB hW) hu (Nat.le_trans hB hW.size) hq)
 have HOO := LH hO; have HE := LH hE; have HV := LH hv
 have HOO2 := LH (show ∀ (a : Addr), oa = some a → ∀ j : Nat, (a.add j).block < B from fun a e j => by
  rw [block_of_add]
  have hp : 0 < occ.length := by
   rcases own_cases hgd.1 with ⟨_, _, h0, _, h⟩ | ⟨_, _, _, _, _, _, _, _, hp, _⟩
   ·omega
   ·omega
  obtain ⟨-, -, -, h4, -⟩ := hO
  obtain ⟨a', e2, hb, -⟩ := h4 hp
  have e3 : oa = some a' := e2
  rw [e] at e3; injection e3 with e3; rw [e3]; exact hb)
 have HA := LH (Blk.new w 27 #[.int .i64 9, .string (str field), .string (str text), .int .i64 n, .bool lo.open_, .bool lo.in_, .string (str lo.text), .bool hi.open_, .bool hi.in_, .string (str hi.text), .slice oa occ.length oc, .slice ka ks.length kc])
 have HBA := LH ((Below.refl w.heap.size w).alloc (Nat.le_refl _) (.cells #[.int .i64 9, .string (str field), .string (str text), .int .i64 n, .bool lo.open_, .bool lo.in_, .string (str lo.text), .bool hi.open_, .bool hi.in_, .string (str hi.text), .slice oa occ.length oc, .slice ka ks.length kc] 27))
 clear hO hK hg hE hv hkd hx2 hgd hbk hol
 by_cases hn : 0 < n
 ·have hn2 : decide ((0 : Int) < n) = true := decide_eq_true hn
  have HAF := LH (show aroundF 9 n (formNs 9 true occ ks) = 40 :: (formNs 9 true occ ks ++ 41 :: 64 :: decN n.toNat) from by unfold aroundF; rw [if_pos rfl, if_pos hn])
  rw [HAF.out] at hlen
  simp only [List.length_cons, List.length_append] at hlen
  obtain ⟨nn, rfl⟩ : ∃ k : Nat, n = (k : Int) := ⟨n.toNat, by omega⟩
  have hnn : 0 < nn := by omega
  obtain ⟨T, hT⟩ : ∃ T, T = l ++ [40] ++ formNs 9 true occ ks := ⟨_, rfl⟩
  have HT := LH hT.symm
  have hTl : T.length ≤ 100000000000000 := by rw [hT, List.length_append, List.length_append, List.length_singleton]; omega
  have HRS := LH (show l ++ aroundF 9 (nn : Int) (formNs 9 true occ ks) = T ++ [41, 64] ++ decN nn from by rw [HAF.out, hT]; simp)
  clear hT
  have HO0 := LH (HV.out.alloc (.cells #[.int .i64 9, .string (str field), .string (str text), .int .i64 (nn : Int), .bool lo.open_, .bool lo.in_, .string (str lo.text), .bool hi.open_, .bool hi.in_, .string (str hi.text), .slice oa occ.length oc, .slice ka ks.length kc] 27))
  have HB0 := LH (HBA.out.mono hB)
  have HK0 := LH (Oth.below HBA.out)
  have HA0 := LH HA.out
  have HZ0 := LH (Nat.le_trans hB HBA.out.size)
  clear HA HBA
  go_enter Tryd.func54, Tryd.ntmps54
  go_wp2_with (at_builtin; refine OwnB.appendAt HO0.out _ _ rfl _ _ rfl rfl rfl ?_ ?_ ?_ HZ0.out ?_ ?_)
  all_goals first | omega | exact (World.size_alloc ..).symm | (simp only [List.length_append, List.length_singleton]; omega) | skip
  intro vh wh h2 h3 h3k
  have HOh := LH (show OwnB wh B vh (l ++ [40]) from by simpa using h2)
  have HBh := LH (HB0.out.trans h3)
  have HKh := LH (HK0.out.trans (HO0.out.oth h3k))
  have HAh := LH ((HO0.out.oth h3k).blk HA0.out (by decide))
  have HZh := LH (Nat.le_trans hB HBh.out.size)
  clear h2 h3 h3k
  have hax := HAh.out
  obtain ⟨d0, d1, d2, d3, d4, d5, d6, d7, d8, d9, d10, d11, -, -, -, -, -, -, -, -, -, -, -, -, dl⟩ := blk12 hax
  clear hax
  go_wp2
  clear d0 d1 d2 d3 d4 d5 d6 d7 d8 d9 d10 d11 dl
  go_loopw [0, 15] (fun ov iv wr => FsRel 9 occ ks T B w #[.int .i64 9, .string (str field), .string (str text), .int .i64 (nn : Int), .bool lo.open_, .bool lo.in_, .string (str lo.text), .bool hi.open_, .bool hi.in_, .string (str hi.text), .slice oa occ.length oc, .slice ka ks.length kc] ov iv wr) (fun _ iv _ => ks.length - (intOf iv).toNat)
  case atStart => exact ⟨0, _, Nat.zero_le _, rfl, HOh.out, by rw [← HT.out]; rfl, HBh.out, HKh.out, HAh.out⟩
  case round =>
   clear HOh HBh HKh HAh HZh
   obtain ⟨j, m, hj, rfl, ho, hm, hb, hk, ha⟩ := hrel
   have HOr := LH ho; have HBr := LH hb; have HKr := LH hk; have HAr := LH ha; have HMr := LH hm
   have HZr := LH (Nat.le_trans hB hb.size)
   clear ho hb hk hm
   obtain ⟨d0, d1, d2, d3, d4, d5, d6, d7, d8, d9, d10, d11, -, -, -, -, -, -, -, -, -, -, -, -, dl⟩ := blk12 ha
   clear ha
   by_cases hlt : j < ks.length
   ·have HKD := LH (fun (W : World) (hW : Below B w W) (u : Value) (q : List UInt8) (hq : q.length + (brF (decide (levN ks[j] < barK 9 (occ.getD j 0))) (formN ks[j])).length ≤ 100000000000000) (hu : OwnB W B u q) => HKK.out W hW u q j hlt hq hu)
    have HMM := LH (show m ++ ((if decide (j = 0) = true then [] else sepF 9) ++ (signF (occ.getD j 0) ++ (brF (decide (levN ks[j] < barK 9 (occ.getD j 0))) (formN ks[j]) ++ formNs 9 false (occ.drop (j + 1)) (ks.drop (j + 1))))) = T from by rw [← HMr.out, formNs_at hlt, if_pos rfl])
    have hjo : j < occ.length := by rw [HOL.out]; exact hlt
    obtain ⟨a, rfl, hc0⟩ := occ_cell HOO.out hjo
    have hib : (j : Int) < (occ.length : Int) := by omega
    have hcb : (a.add j).block < B := HOO2.out a rfl j
    have hgx : occ.getD j 0 = occ[j] := by rw [List.getD_eq_getElem?_getD, List.getElem?_eq_getElem hjo]; rfl
    rw [hgx] at HMM HKD
    have HOC := LH (fun (W : World) (hW : Below B w W) => (hW.cell hcb).trans hc0)
    have HX := LH (show 0 ≤ occ[j] ∧ occ[j] ≤ 2 from HX2.out _ (List.getElem_mem hjo))
    generalize occ[j] = x at *
    generalize (brF (decide (levN ks[j] < barK 9 x)) (formN ks[j])) = kf at *
    generalize hR : formNs 9 false (occ.drop (j + 1)) (ks.drop (j + 1)) = R at *
    have HTL := LH (show T.length ≤ 100000000000000 from hTl)
    have HRR := LH (show formNs 9 (decide (j + 1 = 0)) (occ.drop (j + 1)) (ks.drop (j + 1)) = R from by rw [decide_eq_false (by omega : ¬ j + 1 = 0)]; exact hR)
    clear hcb hc0 hgx HMr hR
    by_cases hj0 : j = 0
    ·subst hj0
     rw [decide_eq_true rfl, if_pos rfl] at HMM
     have h3 : x = 1 ∨ x = 2 ∨ x = 0 := by have := HX.out; omega
     skip
     rcases h3 with rfl | rfl | rfl
     ·have HEQ := LH (show m ++ ([] ++ ([43] ++ (kf ++ R))) = T from HMM.out)
      have hml := congrArg List.length HEQ.out
      simp only [List.length_append, List.length_singleton, List.length_nil] at hml
      clear HMM
      have hcx := HOC.out _ HBr.out
      rw [add0] at hcx
      have hcl := World.block_lt_of_cell? _ _ hcx
      go_wp2_with (at_builtin; refine OwnB.appendAt HOr.out _ _ rfl _ _ rfl rfl rfl ?_ ?_ ?_ HZr.out ?_ ?_)
      all_goals first | omega | exact (World.size_alloc ..).symm | (simp only [List.length_append, List.length_singleton]; omega) | skip
      intro vb wb h2 h3 h3k
      have HOb := LH (show OwnB wb B vb (m ++ [43]) from by simpa using h2)
      have HBb := LH (HBr.out.trans h3)
      have HKb := LH (HKr.out.trans (HOr.out.oth h3k))
      have HAb := LH ((HOr.out.oth h3k).blk HAr.out (by decide))
      have HZb := LH (Nat.le_trans hB HBb.out.size)
      clear h2 h3 h3k d0 d1 d2 d3 d4 d5 d6 d7 d8 d9 d10 d11 dl
      have hax := HAb.out
      obtain ⟨d0, d1, d2, d3, d4, d5, d6, d7, d8, d9, d10, d11, -, -, -, -, -, -, -, -, -, -, -, -, dl⟩ := blk12 hax
      clear hax
      go_wp2_with fail
      refine (HKD.out _ HBb.out vb (m ++ [43]) (by first | omega | (simp only [List.length_append, List.length_singleton]; omega)) HOb.out).mono ?_
      rintro e w4 ⟨v4, rfl, ho4, hb4, hk4⟩
      have HO4 := LH ho4; have HB4 := LH (HBb.out.trans hb4); have HK4 := LH (HKb.out.trans hk4); have HA4 := LH (hk4.blk HAb.out (by decide))
      clear ho4 hb4 hk4
      go_wp2
      go_roundw
      case rel =>
       refine ⟨0 + 1, _, hlt, by go_num, HO4.out, ?_, HB4.out, HK4.out, HA4.out⟩
       rw [HRR.out, ← HEQ.out]
       simp
      case measure => simp [intOf]; omega
     ·have HEQ := LH (show m ++ ([] ++ ([45] ++ (kf ++ R))) = T from HMM.out)
      have hml := congrArg List.length HEQ.out
      simp only [List.length_append, List.length_singleton, List.length_nil] at hml
      clear HMM
      have hcx := HOC.out _ HBr.out
      rw [add0] at hcx
      have hcl := World.block_lt_of_cell? _ _ hcx
      go_wp2_with (at_builtin; refine OwnB.appendAt HOr.out _ _ rfl _ _ rfl rfl rfl ?_ ?_ ?_ HZr.out ?_ ?_)
      all_goals first | omega | exact (World.size_alloc ..).symm | (simp only [List.length_append, List.length_singleton]; omega) | skip
      intro vb wb h2 h3 h3k
      have HOb := LH (show OwnB wb B vb (m ++ [45]) from by simpa using h2)
      have HBb := LH (HBr.out.trans h3)
      have HKb := LH (HKr.out.trans (HOr.out.oth h3k))
      have HAb := LH ((HOr.out.oth h3k).blk HAr.out (by decide))
      have HZb := LH (Nat.le_trans hB HBb.out.size)
      clear h2 h3 h3k d0 d1 d2 d3 d4 d5 d6 d7 d8 d9 d10 d11 dl
      have hax := HAb.out
      obtain ⟨d0, d1, d2, d3, d4, d5, d6, d7, d8, d9, d10, d11, -, -, -, -, -, -, -, -, -, -, -, -, dl⟩ := blk12 hax
      clear hax
      go_wp2_with fail
      refine (HKD.out _ HBb.out vb (m ++ [45]) (by first | omega | (simp only [List.length_append, List.length_singleton]; omega)) HOb.out).mono ?_
      rintro e w4 ⟨v4, rfl, ho4, hb4, hk4⟩
      have HO4 := LH ho4; have HB4 := LH (HBb.out.trans hb4); have HK4 := LH (HKb.out.trans hk4); have HA4 := LH (hk4.blk HAb.out (by decide))
      clear ho4 hb4 hk4
      go_wp2
      go_roundw
      case rel =>
       refine ⟨0 + 1, _, hlt, by go_num, HO4.out, ?_, HB4.out, HK4.out, HA4.out⟩
       rw [HRR.out, ← HEQ.out]
       simp
      case measure => simp [intOf]; omega
     ·have HEQ := LH (show m ++ ([] ++ ([] ++ (kf ++ R))) = T from HMM.out)
      have hml := congrArg List.length HEQ.out
      simp only [List.length_append, List.length_singleton, List.length_nil] at hml
      clear HMM
      have hcx := HOC.out _ HBr.out
      rw [add0] at hcx
      have hcl := World.block_lt_of_cell? _ _ hcx
      go_wp2_with fail
      refine (HKD.out _ HBr.out u0 (m) (by first | omega | (simp only [List.length_append, List.length_singleton]; omega)) HOr.out).mono ?_
      rintro e w4 ⟨v4, rfl, ho4, hb4, hk4⟩
      have HO4 := LH ho4; have HB4 := LH (HBr.out.trans hb4); have HK4 := LH (HKr.out.trans hk4); have HA4 := LH (hk4.blk HAr.out (by decide))
      clear ho4 hb4 hk4
      go_wp2
      go_roundw
      case rel =>
       refine ⟨0 + 1, _, hlt, by go_num, HO4.out, ?_, HB4.out, HK4.out, HA4.out⟩
       rw [HRR.out, ← HEQ.out]
       simp
      case measure => simp [intOf]; omega
    ·have hjn : 0 < j := by omega
     rw [decide_eq_false hj0, if_neg (by simp)] at HMM
     have h3 : x = 1 ∨ x = 2 ∨ x = 0 := by have := HX.out; omega
     clear hj0
     rcases h3 with rfl | rfl | rfl
     ·have HEQ := LH (show m ++ ([32] ++ ([43] ++ (kf ++ R))) = T from HMM.out)
      have hml := congrArg List.length HEQ.out
      simp only [List.length_append, List.length_singleton, List.length_nil] at hml
      clear HMM
      go_wp2_with (at_builtin; refine OwnB.appendAt HOr.out _ _ rfl _ _ rfl rfl rfl ?_ ?_ ?_ HZr.out ?_ ?_)
      all_goals first | omega | exact (World.size_alloc ..).symm | (simp only [List.length_append, List.length_singleton]; omega) | skip
      intro va wa h2 h3 h3k
      have HOa := LH (show OwnB wa B va (m ++ [32]) from by simpa using h2)
      have HBa := LH (HBr.out.trans h3)
      have HKa := LH (HKr.out.trans (HOr.out.oth h3k))
      have HAa := LH ((HOr.out.oth h3k).blk HAr.out (by decide))
      have HZa := LH (Nat.le_trans hB HBa.out.size)
      clear h2 h3 h3k d0 d1 d2 d3 d4 d5 d6 d7 d8 d9 d10 d11 dl
      have hax := HAa.out
      obtain ⟨d0, d1, d2, d3, d4, d5, d6, d7, d8, d9, d10, d11, -, -, -, -, -, -, -, -, -, -, -, -, dl⟩ := blk12 hax
      clear hax
      have hcx := HOC.out _ HBa.out
      skip
      have hcl := World.block_lt_of_cell? _ _ hcx
      go_wp2_with (at_builtin; refine OwnB.appendAt HOa.out _ _ rfl _ _ rfl rfl rfl ?_ ?_ ?_ HZa.out ?_ ?_)
      all_goals first | omega | exact (World.size_alloc ..).symm | (simp only [List.length_append, List.length_singleton]; omega) | skip
      intro vb wb h2 h3 h3k
      have HOb := LH (show OwnB wb B vb (m ++ [32] ++ [43]) from by simpa using h2)
      have HBb := LH (HBa.out.trans h3)
      have HKb := LH (HKa.out.trans (HOa.out.oth h3k))
      have HAb := LH ((HOa.out.oth h3k).blk HAa.out (by decide))
      have HZb := LH (Nat.le_trans hB HBb.out.size)
      clear h2 h3 h3k d0 d1 d2 d3 d4 d5 d6 d7 d8 d9 d10 d11 dl
      have hax := HAb.out
      obtain ⟨d0, d1, d2, d3, d4, d5, d6, d7, d8, d9, d10, d11, -, -, -, -, -, -, -, -, -, -, -, -, dl⟩ := blk12 hax
      clear hax
      go_wp2_with fail
      refine (HKD.out _ HBb.out vb (m ++ [32] ++ [43]) (by first | omega | (simp only [List.length_append, List.length_singleton]; omega)) HOb.out).mono ?_
      rintro e w4 ⟨v4, rfl, ho4, hb4, hk4⟩
      have HO4 := LH ho4; have HB4 := LH (HBb.out.trans hb4); have HK4 := LH (HKb.out.trans hk4); have HA4 := LH (hk4.blk HAb.out (by decide))
      clear ho4 hb4 hk4
      go_wp2
      go_roundw
      case rel =>
       refine ⟨j + 1, _, hlt, by go_num, HO4.out, ?_, HB4.out, HK4.out, HA4.out⟩
       rw [HRR.out, ← HEQ.out]
       simp
      case measure => simp [intOf]; omega
     ·have HEQ := LH (show m ++ ([32] ++ ([45] ++ (kf ++ R))) = T from HMM.out)
      have hml := congrArg List.length HEQ.out
      simp only [List.length_append, List.length_singleton, List.length_nil] at hml
      clear HMM
      go_wp2_with (at_builtin; refine OwnB.appendAt HOr.out _ _ rfl _ _ rfl rfl rfl ?_ ?_ ?_ HZr.out ?_ ?_)
      all_goals first | omega | exact (World.size_alloc ..).symm | (simp only [List.length_append, List.length_singleton]; omega) | skip
      intro va wa h2 h3 h3k
      have HOa := LH (show OwnB wa B va (m ++ [32]) from by simpa using h2)
      have HBa := LH (HBr.out.trans h3)
      have HKa := LH (HKr.out.trans (HOr.out.oth h3k))
      have HAa := LH ((HOr.out.oth h3k).blk HAr.out (by decide))
      have HZa := LH (Nat.le_trans hB HBa.out.size)
      clear h2 h3 h3k d0 d1 d2 d3 d4 d5 d6 d7 d8 d9 d10 d11 dl
      have hax := HAa.out
      obtain ⟨d0, d1, d2, d3, d4, d5, d6, d7, d8, d9, d10, d11, -, -, -, -, -, -, -, -, -, -, -, -, dl⟩ := blk12 hax
      clear hax
      have hcx := HOC.out _ HBa.out
      skip
      have hcl := World.block_lt_of_cell? _ _ hcx
      go_wp2_with (at_builtin; refine OwnB.appendAt HOa.out _ _ rfl _ _ rfl rfl rfl ?_ ?_ ?_ HZa.out ?_ ?_)
      all_goals first | omega | exact (World.size_alloc ..).symm | (simp only [List.length_append, List.length_singleton]; omega) | skip
      intro vb wb h2 h3 h3k
      have HOb := LH (show OwnB wb B vb (m ++ [32] ++ [45]) from by simpa using h2)
      have HBb := LH (HBa.out.trans h3)
      have HKb := LH (HKa.out.trans (HOa.out.oth h3k))
      have HAb := LH ((HOa.out.oth h3k).blk HAa.out (by decide))
      have HZb := LH (Nat.le_trans hB HBb.out.size)
      clear h2 h3 h3k d0 d1 d2 d3 d4 d5 d6 d7 d8 d9 d10 d11 dl
      have hax := HAb.out
      obtain ⟨d0, d1, d2, d3, d4, d5, d6, d7, d8, d9, d10, d11, -, -, -, -, -, -, -, -, -, -, -, -, dl⟩ := blk12 hax
      clear hax
      go_wp2_with fail
      refine (HKD.out _ HBb.out vb (m ++ [32] ++ [45]) (by first | omega | (simp only [List.length_append, List.length_singleton]; omega)) HOb.out).mono ?_
      rintro e w4 ⟨v4, rfl, ho4, hb4, hk4⟩
      have HO4 := LH ho4; have HB4 := LH (HBb.out.trans hb4); have HK4 := LH (HKb.out.trans hk4); have HA4 := LH (hk4.blk HAb.out (by decide))
      clear ho4 hb4 hk4
      go_wp2
      go_roundw
      case rel =>
       refine ⟨j + 1, _, hlt, by go_num, HO4.out, ?_, HB4.out, HK4.out, HA4.out⟩
       rw [HRR.out, ← HEQ.out]
       simp
      case measure => simp [intOf]; omega
     ·have HEQ := LH (show m ++ ([32] ++ ([] ++ (kf ++ R))) = T from HMM.out)
      have hml := congrArg List.length HEQ.out
      simp only [List.length_append, List.length_singleton, List.length_nil] at hml
      clear HMM
      go_wp2_with (at_builtin; refine OwnB.appendAt HOr.out _ _ rfl _ _ rfl rfl rfl ?_ ?_ ?_ HZr.out ?_ ?_)
      all_goals first | omega | exact (World.size_alloc ..).symm | (simp only [List.length_append, List.length_singleton]; omega) | skip
      intro va wa h2 h3 h3k
      have HOa := LH (show OwnB wa B va (m ++ [32]) from by simpa using h2)
      have HBa := LH (HBr.out.trans h3)
      have HKa := LH (HKr.out.trans (HOr.out.oth h3k))
      have HAa := LH ((HOr.out.oth h3k).blk HAr.out (by decide))
      have HZa := LH (Nat.le_trans hB HBa.out.size)
      clear h2 h3 h3k d0 d1 d2 d3 d4 d5 d6 d7 d8 d9 d10 d11 dl
      have hax := HAa.out
      obtain ⟨d0, d1, d2, d3, d4, d5, d6, d7, d8, d9, d10, d11, -, -, -, -, -, -, -, -, -, -, -, -, dl⟩ := blk12 hax
      clear hax
      have hcx := HOC.out _ HBa.out
      skip
      have hcl := World.block_lt_of_cell? _ _ hcx
      go_wp2_with fail
      refine (HKD.out _ HBa.out va (m ++ [32]) (by first | omega | (simp only [List.length_append, List.length_singleton]; omega)) HOa.out).mono ?_
      rintro e w4 ⟨v4, rfl, ho4, hb4, hk4⟩
      have HO4 := LH ho4; have HB4 := LH (HBa.out.trans hb4); have HK4 := LH (HKa.out.trans hk4); have HA4 := LH (hk4.blk HAa.out (by decide))
      clear ho4 hb4 hk4
      go_wp2
      go_roundw
      case rel =>
       refine ⟨j + 1, _, hlt, by go_num, HO4.out, ?_, HB4.out, HK4.out, HA4.out⟩
       rw [HRR.out, ← HEQ.out]
       simp
      case measure => simp [intOf]; omega
   ·have HME := LH (show m = T from by
     have h := HMr.out
     rw [List.drop_eq_nil_of_le (by omega : ks.length ≤ j)] at h
     rw [← h, formNs, List.append_nil])
    rw [HME.out] at HOr
    clear HOL HX2 HKK
    have HAI := LH (fun (W : World) (hW : Below B w W) (u : Value) (hu : OwnB W B u (T ++ [41, 64])) => appintU nn (by omega) u B (T ++ [41, 64]) W (HE.out.belowB hW) hu (Nat.le_trans hB hW.size) (by rw [List.length_append]; simp only [List.length_cons, List.length_nil]; omega))
    have hts : T.length + (⟨#[41, 64]⟩ : ByteArray).size ≤ 140737488355328 := by rw [show (⟨#[41, 64]⟩ : ByteArray).size = 2 from rfl]; omega
    go_wp2_with fail
    go_region_law (first
     | ((refine OwnB.stepStrU HOr.out.drew ⟨#[41, 64]⟩ rfl _ _ rfl rfl rfl HZr.out hts (fun v6 w6 h6 h7 h8 => ?_)); (have h9 := (show OwnB w6 B v6 (T ++ [41, 64]) from h6)); (have h10 := Below.trans (Below.drew HBr.out) h7); (have h11 := Oth.trans HKr.out (Oth.undrew (OwnB.oth (OwnB.drew HOr.out) h8))); (have e3 := (Oth.blk (OwnB.oth (OwnB.drew HOr.out) h8) (Blk.drew HAr.out) (by decide)).cell 3); (simp only [List.getElem?_toArray, List.getElem?_cons_zero, List.getElem?_cons_succ] at e3))
     | (go_simp; go_at_call 56; refine (HAI.out _ (by assumption) _ (by assumption)).mono ?_; rintro e w7 ⟨v7, rfl, k1, k2, k3⟩))
    all_goals
     have HF1 := LH k1
     have HF2 := LH (Below.trans h10 k2)
     have HF3 := LH (Oth.trans h11 k3)
     clear k1 k2 k3 h10 h11
     go_wp2
     go_ret
     exact ⟨_, rfl, by rw [HRS.out]; exact HF1.out, HF2.out, HF3.out⟩
 ·have hn2 : decide ((0 : Int) < n) = false := decide_eq_false hn
  have HAF := LH (show aroundF 9 n (formNs 9 true occ ks) = formNs 9 true occ ks from by unfold aroundF; rw [if_pos rfl, if_neg hn])
  rw [HAF.out] at hlen
  obtain ⟨T, hT⟩ : ∃ T, T = l ++ formNs 9 true occ ks := ⟨_, rfl⟩
  have HT := LH hT.symm
  have hTl : T.length ≤ 100000000000000 := by rw [hT, List.length_append]; exact hlen
  clear hT
  go_enter Tryd.func54, Tryd.ntmps54
  go_wp2
  have HOh := LH (HV.out.alloc (.cells #[.int .i64 9, .string (str field), .string (str text), .int .i64 n, .bool lo.open_, .bool lo.in_, .string (str lo.text), .bool hi.open_, .bool hi.in_, .string (str hi.text), .slice oa occ.length oc, .slice ka ks.length kc] 27))
  have HBh := LH (HBA.out.mono hB)
  have HKh := LH (Oth.below HBA.out)
  have HAh := LH HA.out
  have HZh := LH (Nat.le_trans hB HBA.out.size)
  clear HA HBA
  generalize (w.alloc (.cells #[.int .i64 9, .string (str field), .string (str text), .int .i64 n, .bool lo.open_, .bool lo.in_, .string (str lo.text), .bool hi.open_, .bool hi.in_, .string (str hi.text), .slice oa occ.length oc, .slice ka ks.length kc] 27)) = w2 at *
  go_loopw [0, 15] (fun ov iv wr => FsRel 9 occ ks T B w #[.int .i64 9, .string (str field), .string (str text), .int .i64 n, .bool lo.open_, .bool lo.in_, .string (str lo.text), .bool hi.open_, .bool hi.in_, .string (str hi.text), .slice oa occ.length oc, .slice ka ks.length kc] ov iv wr) (fun _ iv _ => ks.length - (intOf iv).toNat)
  case atStart => exact ⟨0, _, Nat.zero_le _, rfl, HOh.out, by rw [← HT.out]; rfl, HBh.out, HKh.out, HAh.out⟩
  case round =>
   clear HOh HBh HKh HAh HZh
   obtain ⟨j, m, hj, rfl, ho, hm, hb, hk, ha⟩ := hrel
   have HOr := LH ho; have HBr := LH hb; have HKr := LH hk; have HAr := LH ha; have HMr := LH hm
   have HZr := LH (Nat.le_trans hB hb.size)
   clear ho hb hk hm
   obtain ⟨d0, d1, d2, d3, d4, d5, d6, d7, d8, d9, d10, d11, -, -, -, -, -, -, -, -, -, -, -, -, dl⟩ := blk12 ha
   clear ha
   by_cases hlt : j < ks.length
   ·have HKD := LH (fun (W : World) (hW : Below B w W) (u : Value) (q : List UInt8) (hq : q.length + (brF (decide (levN ks[j] < barK 9 (occ.getD j 0))) (formN ks[j])).length ≤ 100000000000000) (hu : OwnB W B u q) => HKK.out W hW u q j hlt hq hu)
    have HMM := LH (show m ++ ((if decide (j = 0) = true then [] else sepF 9) ++ (signF (occ.getD j 0) ++ (brF (decide (levN ks[j] < barK 9 (occ.getD j 0))) (formN ks[j]) ++ formNs 9 false (occ.drop (j + 1)) (ks.drop (j + 1))))) = T from by rw [← HMr.out, formNs_at hlt, if_pos rfl])
    have hjo : j < occ.length := by rw [HOL.out]; exact hlt
    obtain ⟨a, rfl, hc0⟩ := occ_cell HOO.out hjo
    have hib : (j : Int) < (occ.length : Int) := by omega
    have hcb : (a.add j).block < B := HOO2.out a rfl j
    have hgx : occ.getD j 0 = occ[j] := by rw [List.getD_eq_getElem?_getD, List.getElem?_eq_getElem hjo]; rfl
    rw [hgx] at HMM HKD
    have HOC := LH (fun (W : World) (hW : Below B w W) => (hW.cell hcb).trans hc0)
    have HX := LH (show 0 ≤ occ[j] ∧ occ[j] ≤ 2 from HX2.out _ (List.getElem_mem hjo))
    generalize occ[j] = x at *
    generalize (brF (decide (levN ks[j] < barK 9 x)) (formN ks[j])) = kf at *
    generalize hR : formNs 9 false (occ.drop (j + 1)) (ks.drop (j + 1)) = R at *
    have HTL := LH (show T.length ≤ 100000000000000 from hTl)
    have HRR := LH (show formNs 9 (decide (j + 1 = 0)) (occ.drop (j + 1)) (ks.drop (j + 1)) = R from by rw [decide_eq_false (by omega : ¬ j + 1 = 0)]; exact hR)
    clear hcb hc0 hgx HMr hR
    by_cases hj0 : j = 0
    ·subst hj0
     rw [decide_eq_true rfl, if_pos rfl] at HMM
     have h3 : x = 1 ∨ x = 2 ∨ x = 0 := by have := HX.out; omega
     skip
     rcases h3 with rfl | rfl | rfl
     ·have HEQ := LH (show m ++ ([] ++ ([43] ++ (kf ++ R))) = T from HMM.out)
      have hml := congrArg List.length HEQ.out
      simp only [List.length_append, List.length_singleton, List.length_nil] at hml
      clear HMM
      have hcx := HOC.out _ HBr.out
      rw [add0] at hcx
      have hcl := World.block_lt_of_cell? _ _ hcx
      go_wp2_with (at_builtin; refine OwnB.appendAt HOr.out _ _ rfl _ _ rfl rfl rfl ?_ ?_ ?_ HZr.out ?_ ?_)
      all_goals first | omega | exact (World.size_alloc ..).symm | (simp only [List.length_append, List.length_singleton]; omega) | skip
      intro vb wb h2 h3 h3k
      have HOb := LH (show OwnB wb B vb (m ++ [43]) from by simpa using h2)
      have HBb := LH (HBr.out.trans h3)
      have HKb := LH (HKr.out.trans (HOr.out.oth h3k))
      have HAb := LH ((HOr.out.oth h3k).blk HAr.out (by decide))
      have HZb := LH (Nat.le_trans hB HBb.out.size)
      clear h2 h3 h3k d0 d1 d2 d3 d4 d5 d6 d7 d8 d9 d10 d11 dl
      have hax := HAb.out
      obtain ⟨d0, d1, d2, d3, d4, d5, d6, d7, d8, d9, d10, d11, -, -, -, -, -, -, -, -, -, -, -, -, dl⟩ := blk12 hax
      clear hax
      go_wp2_with fail
      refine (HKD.out _ HBb.out vb (m ++ [43]) (by first | omega | (simp only [List.length_append, List.length_singleton]; omega)) HOb.out).mono ?_
      rintro e w4 ⟨v4, rfl, ho4, hb4, hk4⟩
      have HO4 := LH ho4; have HB4 := LH (HBb.out.trans hb4); have HK4 := LH (HKb.out.trans hk4); have HA4 := LH (hk4.blk HAb.out (by decide))
      clear ho4 hb4 hk4
      go_wp2
      go_roundw
      case rel =>
       refine ⟨0 + 1, _, hlt, by go_num, HO4.out, ?_, HB4.out, HK4.out, HA4.out⟩
       rw [HRR.out, ← HEQ.out]
       simp
      case measure => simp [intOf]; omega
     ·have HEQ := LH (show m ++ ([] ++ ([45] ++ (kf ++ R))) = T from HMM.out)
      have hml := congrArg List.length HEQ.out
      simp only [List.length_append, List.length_singleton, List.length_nil] at hml
      clear HMM
      have hcx := HOC.out _ HBr.out
      rw [add0] at hcx
      have hcl := World.block_lt_of_cell? _ _ hcx
      go_wp2_with (at_builtin; refine OwnB.appendAt HOr.out _ _ rfl _ _ rfl rfl rfl ?_ ?_ ?_ HZr.out ?_ ?_)
      all_goals first | omega | exact (World.size_alloc ..).symm | (simp only [List.length_append, List.length_singleton]; omega) | skip
      intro vb wb h2 h3 h3k
      have HOb := LH (show OwnB wb B vb (m ++ [45]) from by simpa using h2)
      have HBb := LH (HBr.out.trans h3)
      have HKb := LH (HKr.out.trans (HOr.out.oth h3k))
      have HAb := LH ((HOr.out.oth h3k).blk HAr.out (by decide))
      have HZb := LH (Nat.le_trans hB HBb.out.size)
      clear h2 h3 h3k d0 d1 d2 d3 d4 d5 d6 d7 d8 d9 d10 d11 dl
      have hax := HAb.out
      obtain ⟨d0, d1, d2, d3, d4, d5, d6, d7, d8, d9, d10, d11, -, -, -, -, -, -, -, -, -, -, -, -, dl⟩ := blk12 hax
      clear hax
      go_wp2_with fail
      refine (HKD.out _ HBb.out vb (m ++ [45]) (by first | omega | (simp only [List.length_append, List.length_singleton]; omega)) HOb.out).mono ?_
      rintro e w4 ⟨v4, rfl, ho4, hb4, hk4⟩
      have HO4 := LH ho4; have HB4 := LH (HBb.out.trans hb4); have HK4 := LH (HKb.out.trans hk4); have HA4 := LH (hk4.blk HAb.out (by decide))
      clear ho4 hb4 hk4
      go_wp2
      go_roundw
      case rel =>
       refine ⟨0 + 1, _, hlt, by go_num, HO4.out, ?_, HB4.out, HK4.out, HA4.out⟩
       rw [HRR.out, ← HEQ.out]
       simp
      case measure => simp [intOf]; omega
     ·have HEQ := LH (show m ++ ([] ++ ([] ++ (kf ++ R))) = T from HMM.out)
      have hml := congrArg List.length HEQ.out
      simp only [List.length_append, List.length_singleton, List.length_nil] at hml
      clear HMM
      have hcx := HOC.out _ HBr.out
      rw [add0] at hcx
      have hcl := World.block_lt_of_cell? _ _ hcx
      go_wp2_with fail
      refine (HKD.out _ HBr.out u0 (m) (by first | omega | (simp only [List.length_append, List.length_singleton]; omega)) HOr.out).mono ?_
      rintro e w4 ⟨v4, rfl, ho4, hb4, hk4⟩
      have HO4 := LH ho4; have HB4 := LH (HBr.out.trans hb4); have HK4 := LH (HKr.out.trans hk4); have HA4 := LH (hk4.blk HAr.out (by decide))
      clear ho4 hb4 hk4
      go_wp2
      go_roundw
      case rel =>
       refine ⟨0 + 1, _, hlt, by go_num, HO4.out, ?_, HB4.out, HK4.out, HA4.out⟩
       rw [HRR.out, ← HEQ.out]
       simp
      case measure => simp [intOf]; omega
    ·have hjn : 0 < j := by omega
     rw [decide_eq_false hj0, if_neg (by simp)] at HMM
     have h3 : x = 1 ∨ x = 2 ∨ x = 0 := by have := HX.out; omega
     clear hj0
     rcases h3 with rfl | rfl | rfl
     ·have HEQ := LH (show m ++ ([32] ++ ([43] ++ (kf ++ R))) = T from HMM.out)
      have hml := congrArg List.length HEQ.out
      simp only [List.length_append, List.length_singleton, List.length_nil] at hml
      clear HMM
      go_wp2_with (at_builtin; refine OwnB.appendAt HOr.out _ _ rfl _ _ rfl rfl rfl ?_ ?_ ?_ HZr.out ?_ ?_)
      all_goals first | omega | exact (World.size_alloc ..).symm | (simp only [List.length_append, List.length_singleton]; omega) | skip
      intro va wa h2 h3 h3k
      have HOa := LH (show OwnB wa B va (m ++ [32]) from by simpa using h2)
      have HBa := LH (HBr.out.trans h3)
      have HKa := LH (HKr.out.trans (HOr.out.oth h3k))
      have HAa := LH ((HOr.out.oth h3k).blk HAr.out (by decide))
      have HZa := LH (Nat.le_trans hB HBa.out.size)
      clear h2 h3 h3k d0 d1 d2 d3 d4 d5 d6 d7 d8 d9 d10 d11 dl
      have hax := HAa.out
      obtain ⟨d0, d1, d2, d3, d4, d5, d6, d7, d8, d9, d10, d11, -, -, -, -, -, -, -, -, -, -, -, -, dl⟩ := blk12 hax
      clear hax
      have hcx := HOC.out _ HBa.out
      skip
      have hcl := World.block_lt_of_cell? _ _ hcx
      go_wp2_with (at_builtin; refine OwnB.appendAt HOa.out _ _ rfl _ _ rfl rfl rfl ?_ ?_ ?_ HZa.out ?_ ?_)
      all_goals first | omega | exact (World.size_alloc ..).symm | (simp only [List.length_append, List.length_singleton]; omega) | skip
      intro vb wb h2 h3 h3k
      have HOb := LH (show OwnB wb B vb (m ++ [32] ++ [43]) from by simpa using h2)
      have HBb := LH (HBa.out.trans h3)
      have HKb := LH (HKa.out.trans (HOa.out.oth h3k))
      have HAb := LH ((HOa.out.oth h3k).blk HAa.out (by decide))
      have HZb := LH (Nat.le_trans hB HBb.out.size)
      clear h2 h3 h3k d0 d1 d2 d3 d4 d5 d6 d7 d8 d9 d10 d11 dl
      have hax := HAb.out
      obtain ⟨d0, d1, d2, d3, d4, d5, d6, d7, d8, d9, d10, d11, -, -, -, -, -, -, -, -, -, -, -, -, dl⟩ := blk12 hax
      clear hax
      go_wp2_with fail
      refine (HKD.out _ HBb.out vb (m ++ [32] ++ [43]) (by first | omega | (simp only [List.length_append, List.length_singleton]; omega)) HOb.out).mono ?_
      rintro e w4 ⟨v4, rfl, ho4, hb4, hk4⟩
      have HO4 := LH ho4; have HB4 := LH (HBb.out.trans hb4); have HK4 := LH (HKb.out.trans hk4); have HA4 := LH (hk4.blk HAb.out (by decide))
      clear ho4 hb4 hk4
      go_wp2
      go_roundw
      case rel =>
       refine ⟨j + 1, _, hlt, by go_num, HO4.out, ?_, HB4.out, HK4.out, HA4.out⟩
       rw [HRR.out, ← HEQ.out]
       simp
      case measure => simp [intOf]; omega
     ·have HEQ := LH (show m ++ ([32] ++ ([45] ++ (kf ++ R))) = T from HMM.out)
      have hml := congrArg List.length HEQ.out
      simp only [List.length_append, List.length_singleton, List.length_nil] at hml
      clear HMM
      go_wp2_with (at_builtin; refine OwnB.appendAt HOr.out _ _ rfl _ _ rfl rfl rfl ?_ ?_ ?_ HZr.out ?_ ?_)
      all_goals first | omega | exact (World.size_alloc ..).symm | (simp only [List.length_append, List.length_singleton]; omega) | skip
      intro va wa h2 h3 h3k
      have HOa := LH (show OwnB wa B va (m ++ [32]) from by simpa using h2)
      have HBa := LH (HBr.out.trans h3)
      have HKa := LH (HKr.out.trans (HOr.out.oth h3k))
      have HAa := LH ((HOr.out.oth h3k).blk HAr.out (by decide))
      have HZa := LH (Nat.le_trans hB HBa.out.size)
      clear h2 h3 h3k d0 d1 d2 d3 d4 d5 d6 d7 d8 d9 d10 d11 dl
      have hax := HAa.out
      obtain ⟨d0, d1, d2, d3, d4, d5, d6, d7, d8, d9, d10, d11, -, -, -, -, -, -, -, -, -, -, -, -, dl⟩ := blk12 hax
      clear hax
      have hcx := HOC.out _ HBa.out
      skip
      have hcl := World.block_lt_of_cell? _ _ hcx
      go_wp2_with (at_builtin; refine OwnB.appendAt HOa.out _ _ rfl _ _ rfl rfl rfl ?_ ?_ ?_ HZa.out ?_ ?_)
      all_goals first | omega | exact (World.size_alloc ..).symm | (simp only [List.length_append, List.length_singleton]; omega) | skip
      intro vb wb h2 h3 h3k
      have HOb := LH (show OwnB wb B vb (m ++ [32] ++ [45]) from by simpa using h2)
      have HBb := LH (HBa.out.trans h3)
      have HKb := LH (HKa.out.trans (HOa.out.oth h3k))
      have HAb := LH ((HOa.out.oth h3k).blk HAa.out (by decide))
      have HZb := LH (Nat.le_trans hB HBb.out.size)
      clear h2 h3 h3k d0 d1 d2 d3 d4 d5 d6 d7 d8 d9 d10 d11 dl
      have hax := HAb.out
      obtain ⟨d0, d1, d2, d3, d4, d5, d6, d7, d8, d9, d10, d11, -, -, -, -, -, -, -, -, -, -, -, -, dl⟩ := blk12 hax
      clear hax
      go_wp2_with fail
      refine (HKD.out _ HBb.out vb (m ++ [32] ++ [45]) (by first | omega | (simp only [List.length_append, List.length_singleton]; omega)) HOb.out).mono ?_
      rintro e w4 ⟨v4, rfl, ho4, hb4, hk4⟩
      have HO4 := LH ho4; have HB4 := LH (HBb.out.trans hb4); have HK4 := LH (HKb.out.trans hk4); have HA4 := LH (hk4.blk HAb.out (by decide))
      clear ho4 hb4 hk4
      go_wp2
      go_roundw
      case rel =>
       refine ⟨j + 1, _, hlt, by go_num, HO4.out, ?_, HB4.out, HK4.out, HA4.out⟩
       rw [HRR.out, ← HEQ.out]
       simp
      case measure => simp [intOf]; omega
     ·have HEQ := LH (show m ++ ([32] ++ ([] ++ (kf ++ R))) = T from HMM.out)
      have hml := congrArg List.length HEQ.out
      simp only [List.length_append, List.length_singleton, List.length_nil] at hml
      clear HMM
      go_wp2_with (at_builtin; refine OwnB.appendAt HOr.out _ _ rfl _ _ rfl rfl rfl ?_ ?_ ?_ HZr.out ?_ ?_)
      all_goals first | omega | exact (World.size_alloc ..).symm | (simp only [List.length_append, List.length_singleton]; omega) | skip
      intro va wa h2 h3 h3k
      have HOa := LH (show OwnB wa B va (m ++ [32]) from by simpa using h2)
      have HBa := LH (HBr.out.trans h3)
      have HKa := LH (HKr.out.trans (HOr.out.oth h3k))
      have HAa := LH ((HOr.out.oth h3k).blk HAr.out (by decide))
      have HZa := LH (Nat.le_trans hB HBa.out.size)
      clear h2 h3 h3k d0 d1 d2 d3 d4 d5 d6 d7 d8 d9 d10 d11 dl
      have hax := HAa.out
      obtain ⟨d0, d1, d2, d3, d4, d5, d6, d7, d8, d9, d10, d11, -, -, -, -, -, -, -, -, -, -, -, -, dl⟩ := blk12 hax
      clear hax
      have hcx := HOC.out _ HBa.out
      skip
      have hcl := World.block_lt_of_cell? _ _ hcx
      go_wp2_with fail
      refine (HKD.out _ HBa.out va (m ++ [32]) (by first | omega | (simp only [List.length_append, List.length_singleton]; omega)) HOa.out).mono ?_
      rintro e w4 ⟨v4, rfl, ho4, hb4, hk4⟩
      have HO4 := LH ho4; have HB4 := LH (HBa.out.trans hb4); have HK4 := LH (HKa.out.trans hk4); have HA4 := LH (hk4.blk HAa.out (by decide))
      clear ho4 hb4 hk4
      go_wp2
      go_roundw
      case rel =>
       refine ⟨j + 1, _, hlt, by go_num, HO4.out, ?_, HB4.out, HK4.out, HA4.out⟩
       rw [HRR.out, ← HEQ.out]
       simp
      case measure => simp [intOf]; omega
   ·have HME := LH (show m = T from by
     have h := HMr.out
     rw [List.drop_eq_nil_of_le (by omega : ks.length ≤ j)] at h
     rw [← h, formNs, List.append_nil])
    rw [HME.out] at HOr
    go_wp2
    go_ret
    exact ⟨_, rfl, by rw [HAF.out, HT.out]; exact HOr.out, HBr.out, HKr.out⟩
end Go.Proofs.YthcldpminmhgkaaDoor
end
