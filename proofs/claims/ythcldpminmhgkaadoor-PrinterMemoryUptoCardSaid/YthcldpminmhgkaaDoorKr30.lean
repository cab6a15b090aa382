/- Merged for a claim by shake.py: Jaj Jak Jal -/
import Derived.Test.YthcldpminmhgkaaDoorKrA
import Derived.Test.YthcldpminmhgkaaDoorKr29
set_option maxRecDepth 100000
set_option maxHeartbeats 4000000
set_option linter.unusedSimpArgs false
set_option linter.unusedVariables false
section
namespace Go.Proofs.YthcldpminmhgkaaDoor
open Go.RowKit
theorem form_10 (n : Int) (field text : List UInt8) (lo hi : Bd) (occ : List Int) (ks : List Nd) (w : World) (B : Nat) (oa ka : Option Addr) (oc kc : Nat) (v : Value) (l : List UInt8) (hE : PrEnv w B) (hv : OwnB w B v l) (hB : B ≤ w.heap.size) (hkd : KdOk 10 n field text lo hi occ ks) (hO : RdF folS w (fun b => b < B) ⟨oa, occ.length, oc⟩ occ) (hK : KidsR w (fun b => b < B) ka kc ks) (hbk : bkNs ks ≤ 300000000000) (hg : goodN (.mk 10 field text n lo hi occ ks) = true) (hlen : l.length + (formNs 10 true occ ks).length ≤ 100000000000000) :
  Calls Tryd.prog 36 #[v, .agg #[.int .i64 10, .string (str field), .string (str text), .int .i64 n, .bool lo.open_, .bool lo.in_, .string (str lo.text), .bool hi.open_, .bool hi.in_, .string (str hi.text), .slice oa occ.length oc, .slice ka ks.length kc]] w (RetU w B (l ++ formNs 10 true occ ks)) := by
 have HO0 := LH (hv.alloc (.cells #[.int .i64 10, .string (str field), .string (str text), .int .i64 n, .bool lo.open_, .bool lo.in_, .string (str lo.text), .bool hi.open_, .bool hi.in_, .string (str hi.text), .slice oa occ.length oc, .slice ka ks.length kc] 27))
 have HBA := LH ((Below.refl w.heap.size w).alloc (Nat.le_refl _) (.cells #[.int .i64 10, .string (str field), .string (str text), .int .i64 n, .bool lo.open_, .bool lo.in_, .string (str lo.text), .bool hi.open_, .bool hi.in_, .string (str hi.text), .slice oa occ.length oc, .slice ka ks.length kc] 27))
 have HB0 := LH (HBA.out.mono hB)
 have HK0 := LH (Oth.below HBA.out)
 have HA0 := LH (Blk.new w 27 #[.int .i64 10, .string (str field), .string (str text), .int .i64 n, .bool lo.open_, .bool lo.in_, .string (str lo.text), .bool hi.open_, .bool hi.in_, .string (str hi.text), .slice oa occ.length oc, .slice ka ks.length kc])
 have HZ0 := LH (Nat.le_trans hB HBA.out.size)
 have HE := LH hE
 have hkl : ks.length ≤ 9223372036854775807 := by have h := Nat.le_trans hK.len.1 hK.len.2; unfold maxLen at h; omega
 have HKK := LH (fun (W : World) (hW : Below B w W) (u : Value) (q : List UInt8) (j : Nat) (hj : j < ks.length) (hq : q.length + (brF (decide (levN ks[j] < barK 10 (occ.getD j 0))) (formN ks[j])).length ≤ 100000000000000) (hu : OwnB W B u q) => hkd W B oa ka oc kc u q j hj (hO.belowB hW) (hK.belowB hW) hbk hg (hE.belowB hW) hu (Nat.le_trans hB hW.size) hq)
 have HAS := LH (fun (W : World) (hW : Below B w W) => (show W.cell? ⟨17, 109, none⟩ = some (.string ⟨#[32, 65, 78, 68, 32]⟩) from (hE.belowB hW).asks.1 109 _ rfl))
 have HAG := LH (fun (W : World) (hW : Below B w W) => (hE.belowB hW).asks.2)
 obtain ⟨T, hT⟩ : ∃ T, T = l ++ formNs 10 true occ ks := ⟨_, rfl⟩
 have HT := LH hT.symm
 have hTl : T.length ≤ 100000000000000 := by rw [hT, List.length_append]; exact hlen
 clear HBA hE hv hkd hO hK hg hbk hT HE hlen
 go_enter Tryd.func36, Tryd.ntmps36
 go_wp2
 generalize (w.alloc (.cells #[.int .i64 10, .string (str field), .string (str text), .int .i64 n, .bool lo.open_, .bool lo.in_, .string (str lo.text), .bool hi.open_, .bool hi.in_, .string (str hi.text), .slice oa occ.length oc, .slice ka ks.length kc] 27)) = w0 at *
 go_loopw [0, 20] (fun ov iv wr => FsRel 10 occ ks T B w #[.int .i64 10, .string (str field), .string (str text), .int .i64 n, .bool lo.open_, .bool lo.in_, .string (str lo.text), .bool hi.open_, .bool hi.in_, .string (str hi.text), .slice oa occ.length oc, .slice ka ks.length kc] ov iv wr) (fun _ iv _ => ks.length - (intOf iv).toNat)
 case atStart => exact ⟨0, _, Nat.zero_le _, rfl, HO0.out, by rw [← HT.out]; rfl, HB0.out, HK0.out, HA0.out⟩
 case round =>
  clear HO0 HB0 HK0 HA0 HZ0
  obtain ⟨j, m, hj, rfl, ho, hm, hb, hk, ha⟩ := hrel
  have HOr := LH ho; have HBr := LH hb; have HKr := LH hk; have HAr := LH ha; have HMr := LH hm
  have HZr := LH (Nat.le_trans hB hb.size)
  have a9 := HAS.out _ hb
  have hag := HAG.out _ hb
  clear ho hb hk hm
  obtain ⟨d0, d1, d2, d3, d4, d5, d6, d7, d8, d9, d10, d11, -, -, -, -, -, -, -, -, -, -, -, -, dl⟩ := blk12 ha
  clear ha
  by_cases hlt : j < ks.length
  ·have HKD := LH (fun (W : World) (hW : Below B w W) (u : Value) (q : List UInt8) (hq : q.length + (brF (decide (levN ks[j] < barK 10 (occ.getD j 0))) (formN ks[j])).length ≤ 100000000000000) (hu : OwnB W B u q) => HKK.out W hW u q j hlt hq hu)
   have HMM := LH (show m ++ ((if decide (j = 0) = true then [] else sepF 10) ++ ([] ++ (brF (decide (levN ks[j] < barK 10 (occ.getD j 0))) (formN ks[j]) ++ formNs 10 false (occ.drop (j + 1)) (ks.drop (j + 1))))) = T from by rw [← HMr.out, formNs_at hlt, if_neg (by decide : ¬ (10 : Int) = 9)])
   generalize brF (decide (levN ks[j] < barK 10 (occ.getD j 0))) (formN ks[j]) = kf at *
   generalize hR : formNs 10 false (occ.drop (j + 1)) (ks.drop (j + 1)) = R at *
   have HRR := LH (show formNs 10 (decide (j + 1 = 0)) (occ.drop (j + 1)) (ks.drop (j + 1)) = R from by rw [decide_eq_false (by omega : ¬ j + 1 = 0)]; exact hR)
   clear HMr hR
   by_cases hj0 : j = 0
   ·subst hj0
    rw [decide_eq_true rfl, if_pos rfl] at HMM
    have hml := congrArg List.length HMM.out
    simp only [List.length_append, List.length_nil] at hml
    go_wp2_with fail
    refine (HKD.out _ HBr.out u0 (m) (by first | omega | (simp only [List.length_append, List.length_cons, List.length_nil]; omega)) HOr.out).mono ?_
    rintro e w4 ⟨v4, rfl, ho4, hb4, hk4⟩
    have HO4 := LH ho4; have HB4 := LH (HBr.out.trans hb4); have HK4 := LH (HKr.out.trans hk4); have HA4 := LH (hk4.blk HAr.out (by decide))
    clear ho4 hb4 hk4
    go_wp2
    go_roundw
    case rel =>
     refine ⟨0 + 1, _, hlt, by go_num, HO4.out, ?_, HB4.out, HK4.out, HA4.out⟩
     rw [HRR.out, ← HMM.out]
     simp
    case measure => simp [intOf]; omega
   ·have hjn : 0 < j := by omega
    rw [decide_eq_false hj0, if_neg (by simp), show sepF 10 = ([32, 65, 78, 68, 32] : List UInt8) from rfl] at HMM
    clear hj0
    have hml := congrArg List.length HMM.out
    simp only [List.length_append, List.length_cons, List.length_nil] at hml
    have hsz : m.length + (⟨#[32, 65, 78, 68, 32]⟩ : ByteArray).size ≤ 140737488355328 := by rw [show (⟨#[32, 65, 78, 68, 32]⟩ : ByteArray).size = 5 from rfl]; omega
    go_wp2_with (at_builtin; refine OwnB.appStrU HOr.out _ rfl _ _ rfl rfl rfl HZr.out hsz ?_)
    intro va wa h2 h3 h3k
    have HOa := LH (show OwnB wa B va (m ++ ([32, 65, 78, 68, 32] : List UInt8)) from by first | exact h2 | simpa [str_data] using h2)
    have HBa := LH (HBr.out.trans h3)
    have HKa := LH (HKr.out.trans (HOr.out.oth h3k))
    have HAa := LH ((HOr.out.oth h3k).blk HAr.out (by decide))
    have HZa := LH (Nat.le_trans hB HBa.out.size)
    clear h2 h3 h3k
    clear d0 d1 d2 d3 d4 d5 d6 d7 d8 d9 d10 d11 dl
    have hax := HAa.out
    obtain ⟨d0, d1, d2, d3, d4, d5, d6, d7, d8, d9, d10, d11, -, -, -, -, -, -, -, -, -, -, -, -, dl⟩ := blk12 hax
    clear hax
    go_wp2_with fail
    refine (HKD.out _ HBa.out va (m ++ ([32, 65, 78, 68, 32] : List UInt8)) (by first | omega | (simp only [List.length_append, List.length_cons, List.length_nil]; omega)) HOa.out).mono ?_
    rintro e w4 ⟨v4, rfl, ho4, hb4, hk4⟩
    have HO4 := LH ho4; have HB4 := LH (HBa.out.trans hb4); have HK4 := LH (HKa.out.trans hk4); have HA4 := LH (hk4.blk HAa.out (by decide))
    clear ho4 hb4 hk4
    go_wp2
    go_roundw
    case rel =>
     refine ⟨j + 1, _, hlt, by go_num, HO4.out, ?_, HB4.out, HK4.out, HA4.out⟩
     rw [HRR.out, ← HMM.out]
     simp
    case measure => simp [intOf]; omega
  ·have HME := LH (show m = T from by
    have h := HMr.out
    rw [List.drop_eq_nil_of_le (by omega : ks.length ≤ j)] at h
    rw [← h, formNs, List.append_nil])
   rw [HME.out] at HOr
   go_wp2
   go_ret
   exact ⟨_, rfl, by rw [HT.out]; exact HOr.out, HBr.out, HKr.out⟩
theorem form_11 (n : Int) (field text : List UInt8) (lo hi : Bd) (occ : List Int) (ks : List Nd) (w : World) (B : Nat) (oa ka : Option Addr) (oc kc : Nat) (v : Value) (l : List UInt8) (hE : PrEnv w B) (hv : OwnB w B v l) (hB : B ≤ w.heap.size) (hkd : KdOk 11 n field text lo hi occ ks) (hO : RdF folS w (fun b => b < B) ⟨oa, occ.length, oc⟩ occ) (hK : KidsR w (fun b => b < B) ka kc ks) (hbk : bkNs ks ≤ 300000000000) (hg : goodN (.mk 11 field text n lo hi occ ks) = true) (hlen : l.length + (formNs 11 true occ ks).length ≤ 100000000000000) :
  Calls Tryd.prog 36 #[v, .agg #[.int .i64 11, .string (str field), .string (str text), .int .i64 n, .bool lo.open_, .bool lo.in_, .string (str lo.text), .bool hi.open_, .bool hi.in_, .string (str hi.text), .slice oa occ.length oc, .slice ka ks.length kc]] w (RetU w B (l ++ formNs 11 true occ ks)) := by
 have HO0 := LH (hv.alloc (.cells #[.int .i64 11, .string (str field), .string (str text), .int .i64 n, .bool lo.open_, .bool lo.in_, .string (str lo.text), .bool hi.open_, .bool hi.in_, .string (str hi.text), .slice oa occ.length oc, .slice ka ks.length kc] 27))
 have HBA := LH ((Below.refl w.heap.size w).alloc (Nat.le_refl _) (.cells #[.int .i64 11, .string (str field), .string (str text), .int .i64 n, .bool lo.open_, .bool lo.in_, .string (str lo.text), .bool hi.open_, .bool hi.in_, .string (str hi.text), .slice oa occ.length oc, .slice ka ks.length kc] 27))
 have HB0 := LH (HBA.out.mono hB)
 have HK0 := LH (Oth.below HBA.out)
 have HA0 := LH (Blk.new w 27 #[.int .i64 11, .string (str field), .string (str text), .int .i64 n, .bool lo.open_, .bool lo.in_, .string (str lo.text), .bool hi.open_, .bool hi.in_, .string (str hi.text), .slice oa occ.length oc, .slice ka ks.length kc])
 have HZ0 := LH (Nat.le_trans hB HBA.out.size)
 have HE := LH hE
 have hkl : ks.length ≤ 9223372036854775807 := by have h := Nat.le_trans hK.len.1 hK.len.2; unfold maxLen at h; omega
 have HKK := LH (fun (W : World) (hW : Below B w W) (u : Value) (q : List UInt8) (j : Nat) (hj : j < ks.length) (hq : q.length + (brF (decide (levN ks[j] < barK 11 (occ.getD j 0))) (formN ks[j])).length ≤ 100000000000000) (hu : OwnB W B u q) => hkd W B oa ka oc kc u q j hj (hO.belowB hW) (hK.belowB hW) hbk hg (hE.belowB hW) hu (Nat.le_trans hB hW.size) hq)
 have HAS := LH (fun (W : World) (hW : Below B w W) => (show W.cell? ⟨17, 119, none⟩ = some (.string ⟨#[32, 79, 82, 32]⟩) from (hE.belowB hW).asks.1 119 _ rfl))
 have HAG := LH (fun (W : World) (hW : Below B w W) => (hE.belowB hW).asks.2)
 obtain ⟨T, hT⟩ : ∃ T, T = l ++ formNs 11 true occ ks := ⟨_, rfl⟩
 have HT := LH hT.symm
 have hTl : T.length ≤ 100000000000000 := by rw [hT, List.length_append]; exact hlen
 clear HBA hE hv hkd hO hK hg hbk hT HE hlen
 go_enter Tryd.func36, Tryd.ntmps36
 go_wp2
 generalize (w.alloc (.cells #[.int .i64 11, .string (str field), .string (str text), .int .i64 n, .bool lo.open_, .bool lo.in_, .string (str lo.text), .bool hi.open_, .bool hi.in_, .string (str hi.text), .slice oa occ.length oc, .slice ka ks.length kc] 27)) = w0 at *
 go_loopw [0, 20] (fun ov iv wr => FsRel 11 occ ks T B w #[.int .i64 11, .string (str field), .string (str text), .int .i64 n, .bool lo.open_, .bool lo.in_, .string (str lo.text), .bool hi.open_, .bool hi.in_, .string (str hi.text), .slice oa occ.length oc, .slice ka ks.length kc] ov iv wr) (fun _ iv _ => ks.length - (intOf iv).toNat)
 case atStart => exact ⟨0, _, Nat.zero_le _, rfl, HO0.out, by rw [← HT.out]; rfl, HB0.out, HK0.out, HA0.out⟩
 case round =>
  clear HO0 HB0 HK0 HA0 HZ0
  obtain ⟨j, m, hj, rfl, ho, hm, hb, hk, ha⟩ := hrel
  have HOr := LH ho; have HBr := LH hb; have HKr := LH hk; have HAr := LH ha; have HMr := LH hm
  have HZr := LH (Nat.le_trans hB hb.size)
  have a9 := HAS.out _ hb
  have hag := HAG.out _ hb
  clear ho hb hk hm
  obtain ⟨d0, d1, d2, d3, d4, d5, d6, d7, d8, d9, d10, d11, -, -, -, -, -, -, -, -, -, -, -, -, dl⟩ := blk12 ha
  clear ha
  by_cases hlt : j < ks.length
  ·have HKD := LH (fun (W : World) (hW : Below B w W) (u : Value) (q : List UInt8) (hq : q.length + (brF (decide (levN ks[j] < barK 11 (occ.getD j 0))) (formN ks[j])).length ≤ 100000000000000) (hu : OwnB W B u q) => HKK.out W hW u q j hlt hq hu)
   have HMM := LH (show m ++ ((if decide (j = 0) = true then [] else sepF 11) ++ ([] ++ (brF (decide (levN ks[j] < barK 11 (occ.getD j 0))) (formN ks[j]) ++ formNs 11 false (occ.drop (j + 1)) (ks.drop (j + 1))))) = T from by rw [← HMr.out, formNs_at hlt, if_neg (by decide : ¬ (11 : Int) = 9)])
   generalize brF (decide (levN ks[j] < barK 11 (occ.getD j 0))) (formN ks[j]) = kf at *
   generalize hR : formNs 11 false (occ.drop (j + 1)) (ks.drop (j + 1)) = R at *
   have HRR := LH (show formNs 11 (decide (j + 1 = 0)) (occ.drop (j + 1)) (ks.drop (j + 1)) = R from by rw [decide_eq_false (by omega : ¬ j + 1 = 0)]; exact hR)
   clear HMr hR
   by_cases hj0 : j = 0
   ·subst hj0
    rw [decide_eq_true rfl, if_pos rfl] at HMM
    have hml := congrArg List.length HMM.out
    simp only [List.length_append, List.length_nil] at hml
    go_wp2_with fail
    refine (HKD.out _ HBr.out u0 (m) (by first | omega | (simp only [List.length_append, List.length_cons, List.length_nil]; omega)) HOr.out).mono ?_
    rintro e w4 ⟨v4, rfl, ho4, hb4, hk4⟩
    have HO4 := LH ho4; have HB4 := LH (HBr.out.trans hb4); have HK4 := LH (HKr.out.trans hk4); have HA4 := LH (hk4.blk HAr.out (by decide))
    clear ho4 hb4 hk4
    go_wp2
    go_roundw
    case rel =>
     refine ⟨0 + 1, _, hlt, by go_num, HO4.out, ?_, HB4.out, HK4.out, HA4.out⟩
     rw [HRR.out, ← HMM.out]
     simp
    case measure => simp [intOf]; omega
   ·have hjn : 0 < j := by omega
    rw [decide_eq_false hj0, if_neg (by simp), show sepF 11 = ([32, 79, 82, 32] : List UInt8) from rfl] at HMM
    clear hj0
    have hml := congrArg List.length HMM.out
    simp only [List.length_append, List.length_cons, List.length_nil] at hml
    have hsz : m.length + (⟨#[32, 79, 82, 32]⟩ : ByteArray).size ≤ 140737488355328 := by rw [show (⟨#[32, 79, 82, 32]⟩ : ByteArray).size = 4 from rfl]; omega
    go_wp2_with (at_builtin; refine OwnB.appStrU HOr.out _ rfl _ _ rfl rfl rfl HZr.out hsz ?_)
    intro va wa h2 h3 h3k
    have HOa := LH (show OwnB wa B va (m ++ ([32, 79, 82, 32] : List UInt8)) from by first | exact h2 | simpa [str_data] using h2)
    have HBa := LH (HBr.out.trans h3)
    have HKa := LH (HKr.out.trans (HOr.out.oth h3k))
    have HAa := LH ((HOr.out.oth h3k).blk HAr.out (by decide))
    have HZa := LH (Nat.le_trans hB HBa.out.size)
    clear h2 h3 h3k
    clear d0 d1 d2 d3 d4 d5 d6 d7 d8 d9 d10 d11 dl
    have hax := HAa.out
    obtain ⟨d0, d1, d2, d3, d4, d5, d6, d7, d8, d9, d10, d11, -, -, -, -, -, -, -, -, -, -, -, -, dl⟩ := blk12 hax
    clear hax
    go_wp2_with fail
    refine (HKD.out _ HBa.out va (m ++ ([32, 79, 82, 32] : List UInt8)) (by first | omega | (simp only [List.length_append, List.length_cons, List.length_nil]; omega)) HOa.out).mono ?_
    rintro e w4 ⟨v4, rfl, ho4, hb4, hk4⟩
    have HO4 := LH ho4; have HB4 := LH (HBa.out.trans hb4); have HK4 := LH (HKa.out.trans hk4); have HA4 := LH (hk4.blk HAa.out (by decide))
    clear ho4 hb4 hk4
    go_wp2
    go_roundw
    case rel =>
     refine ⟨j + 1, _, hlt, by go_num, HO4.out, ?_, HB4.out, HK4.out, HA4.out⟩
     rw [HRR.out, ← HMM.out]
     simp
    case measure => simp [intOf]; omega
  ·have HME := LH (show m = T from by
    have h := HMr.out
    rw [List.drop_eq_nil_of_le (by omega : ks.length ≤ j)] at h
    rw [← h, formNs, List.append_nil])
   rw [HME.out] at HOr
   go_wp2
   go_ret
   exact ⟨_, rfl, by rw [HT.out]; exact HOr.out, HBr.out, HKr.out⟩
theorem form_12 (n : Int) (field text : List UInt8) (lo hi : Bd) (occ : List Int) (ks : List Nd) (w : World) (B : Nat) (oa ka : Option Addr) (oc kc : Nat) (v : Value) (l : List UInt8) (hE : PrEnv w B) (hv : OwnB w B v l) (hB : B ≤ w.heap.size) (hkd : KdOk 12 n field text lo hi occ ks) (hO : RdF folS w (fun b => b < B) ⟨oa, occ.length, oc⟩ occ) (hK : KidsR w (fun b => b < B) ka kc ks) (hbk : bkNs ks ≤ 300000000000) (hg : goodN (.mk 12 field text n lo hi occ ks) = true) (hlen : l.length + (formNs 12 true occ ks).length ≤ 100000000000000) :
  Calls Tryd.prog 36 #[v, .agg #[.int .i64 12, .string (str field), .string (str text), .int .i64 n, .bool lo.open_, .bool lo.in_, .string (str lo.text), .bool hi.open_, .bool hi.in_, .string (str hi.text), .slice oa occ.length oc, .slice ka ks.length kc]] w (RetU w B (l ++ formNs 12 true occ ks)) := by
 have HO0 := LH (hv.alloc (.cells #[.int .i64 12, .string (str field), .string (str text), .int .i64 n, .bool lo.open_, .bool lo.in_, .string (str lo.text), .bool hi.open_, .bool hi.in_, .string (str hi.text), .slice oa occ.length oc, .slice ka ks.length kc] 27))
 have HBA := LH ((Below.refl w.heap.size w).alloc (Nat.le_refl _) (.cells #[.int .i64 12, .string (str field), .string (str text), .int .i64 n, .bool lo.open_, .bool lo.in_, .string (str lo.text), .bool hi.open_, .bool hi.in_, .string (str hi.text), .slice oa occ.length oc, .slice ka ks.length kc] 27))
 have HB0 := LH (HBA.out.mono hB)
 have HK0 := LH (Oth.below HBA.out)
 have HA0 := LH (Blk.new w 27 #[.int .i64 12, .string (str field), .string (str text), .int .i64 n, .bool lo.open_, .bool lo.in_, .string (str lo.text), .bool hi.open_, .bool hi.in_, .string (str hi.text), .slice oa occ.length oc, .slice ka ks.length kc])
 have HZ0 := LH (Nat.le_trans hB HBA.out.size)
 have HE := LH hE
 have hkl : ks.length ≤ 9223372036854775807 := by have h := Nat.le_trans hK.len.1 hK.len.2; unfold maxLen at h; omega
 have HKK := LH (fun (W : World) (hW : Below B w W) (u : Value) (q : List UInt8) (j : Nat) (hj : j < ks.length) (hq : q.length + (brF (decide (levN ks[j] < barK 12 (occ.getD j 0))) (formN ks[j])).length ≤ 100000000000000) (hu : OwnB W B u q) => hkd W B oa ka oc kc u q j hj (hO.belowB hW) (hK.belowB hW) hbk hg (hE.belowB hW) hu (Nat.le_trans hB hW.size) hq)
 have HAS := LH (fun (W : World) (hW : Below B w W) => (show W.cell? ⟨17, 129, none⟩ = some (.string ⟨#[32, 124, 32]⟩) from (hE.belowB hW).asks.1 129 _ rfl))
 have HAG := LH (fun (W : World) (hW : Below B w W) => (hE.belowB hW).asks.2)
 obtain ⟨T, hT⟩ : ∃ T, T = l ++ formNs 12 true occ ks := ⟨_, rfl⟩
 have HT := LH hT.symm
 have hTl : T.length ≤ 100000000000000 := by rw [hT, List.length_append]; exact hlen
 clear HBA hE hv hkd hO hK hg hbk hT HE hlen
 go_enter Tryd.func36, Tryd.ntmps36
 go_wp2
 generalize (w.alloc (.cells #[.int .i64 12, .string (str field), .string (str text), .int .i64 n, .bool lo.open_, .bool lo.in_, .string (str lo.text), .bool hi.open_, .bool hi.in_, .string (str hi.text), .slice oa occ.length oc, .slice ka ks.length kc] 27)) = w0 at *
 go_loopw [0, 20] (fun ov iv wr => FsRel 12 occ ks T B w #[.int .i64 12, .string (str field), .string (str text), .int .i64 n, .bool lo.open_, .bool lo.in_, .string (str lo.text), .bool hi.open_, .bool hi.in_, .string (str hi.text), .slice oa occ.length oc, .slice ka ks.length kc] ov iv wr) (fun _ iv _ => ks.length - (intOf iv).toNat)
 case atStart => exact ⟨0, _, Nat.zero_le _, rfl, HO0.out, by rw [← HT.out]; rfl, HB0.out, HK0.out, HA0.out⟩
 case round =>
  clear HO0 HB0 HK0 HA0 HZ0
  obtain ⟨j, m, hj, rfl, ho, hm, hb, hk, ha⟩ := hrel
  have HOr := LH ho; have HBr := LH hb; have HKr := LH hk; have HAr := LH ha; have HMr := LH hm
  have HZr := LH (Nat.le_trans hB hb.size)
  have a9 := HAS.out _ hb
  have hag := HAG.out _ hb
  clear ho hb hk hm
  obtain ⟨d0, d1, d2, d3, d4, d5, d6, d7, d8, d9, d10, d11, -, -, -, -, -, -, -, -, -, -, -, -, dl⟩ := blk12 ha
  clear ha
  by_cases hlt : j < ks.length
  ·have HKD := LH (fun (W : World) (hW : Below B w W) (u : Value) (q : List UInt8) (hq : q.length + (brF (decide (levN ks[j] < barK 12 (occ.getD j 0))) (formN ks[j])).length ≤ 100000000000000) (hu : OwnB W B u q) => HKK.out W hW u q j hlt hq hu)
   have HMM := LH (show m ++ ((if decide (j = 0) = true then [] else sepF 12) ++ ([] ++ (brF (decide (levN ks[j] < barK 12 (occ.getD j 0))) (formN ks[j]) ++ formNs 12 false (occ.drop (j + 1)) (ks.drop (j + 1))))) = T from by rw [← HMr.out, formNs_at hlt, if_neg (by decide : ¬ (12 : Int) = 9)])
   generalize brF (decide (levN ks[j] < barK 12 (occ.getD j 0))) (formN ks[j]) = kf at *
   generalize hR : formNs 12 false (occ.drop (j + 1)) (ks.drop (j + 1)) = R at *
   have HRR := LH (show formNs 12 (decide (j + 1 = 0)) (occ.drop (j + 1)) (ks.drop (j + 1)) = R from by rw [decide_eq_false (by omega : ¬ j + 1 = 0)]; exact hR)
   clear HMr hR
   by_cases hj0 : j = 0
   ·subst hj0
    rw [decide_eq_true rfl, if_pos rfl] at HMM
    have hml := congrArg List.length HMM.out
    simp only [List.length_append, List.length_nil] at hml
    go_wp2_with fail
    refine (HKD.out _ HBr.out u0 (m) (by first | omega | (simp only [List.length_append, List.length_cons, List.length_nil]; omega)) HOr.out).mono ?_
    rintro e w4 ⟨v4, rfl, ho4, hb4, hk4⟩
    have HO4 := LH ho4; have HB4 := LH (HBr.out.trans hb4); have HK4 := LH (HKr.out.trans hk4); have HA4 := LH (hk4.blk HAr.out (by decide))
    clear ho4 hb4 hk4
    go_wp2
    go_roundw
    case rel =>
     refine ⟨0 + 1, _, hlt, by go_num, HO4.out, ?_, HB4.out, HK4.out, HA4.out⟩
     rw [HRR.out, ← HMM.out]
     simp
    case measure => simp [intOf]; omega
   ·have hjn : 0 < j := by omega
    rw [decide_eq_false hj0, if_neg (by simp), show sepF 12 = ([32, 124, 32] : List UInt8) from rfl] at HMM
    clear hj0
    have hml := congrArg List.length HMM.out
    simp only [List.length_append, List.length_cons, List.length_nil] at hml
    have hsz : m.length + (⟨#[32, 124, 32]⟩ : ByteArray).size ≤ 140737488355328 := by rw [show (⟨#[32, 124, 32]⟩ : ByteArray).size = 3 from rfl]; omega
    go_wp2_with (at_builtin; refine OwnB.appStrU HOr.out _ rfl _ _ rfl rfl rfl HZr.out hsz ?_)
    intro va wa h2 h3 h3k
    have HOa := LH (show OwnB wa B va (m ++ ([32, 124, 32] : List UInt8)) from by first | exact h2 | simpa [str_data] using h2)
    have HBa := LH (HBr.out.trans h3)
    have HKa := LH (HKr.out.trans (HOr.out.oth h3k))
    have HAa := LH ((HOr.out.oth h3k).blk HAr.out (by decide))
    have HZa := LH (Nat.le_trans hB HBa.out.size)
    clear h2 h3 h3k
    clear d0 d1 d2 d3 d4 d5 d6 d7 d8 d9 d10 d11 dl
    have hax := HAa.out
    obtain ⟨d0, d1, d2, d3, d4, d5, d6, d7, d8, d9, d10, d11, -, -, -, -, -, -, -, -, -, -, -, -, dl⟩ := blk12 hax
    clear hax
    go_wp2_with fail
    refine (HKD.out _ HBa.out va (m ++ ([32, 124, 32] : List UInt8)) (by first | omega | (simp only [List.length_append, List.length_cons, List.length_nil]; omega)) HOa.out).mono ?_
    rintro e w4 ⟨v4, rfl, ho4, hb4, hk4⟩
    have HO4 := LH ho4; have HB4 := LH (HBa.out.trans hb4); have HK4 := LH (HKa.out.trans hk4); have HA4 := LH (hk4.blk HAa.out (by decide))
    clear ho4 hb4 hk4
    go_wp2
    go_roundw
    case rel =>
     refine ⟨j + 1, _, hlt, by go_num, HO4.out, ?_, HB4.out, HK4.out, HA4.out⟩
     rw [HRR.out, ← HMM.out]
     simp
    case measure => simp [intOf]; omega
  ·have HME := LH (show m = T from by
    have h := HMr.out
    rw [List.drop_eq_nil_of_le (by omega : ks.length ≤ j)] at h
    rw [← h, formNs, List.append_nil])
   rw [HME.out] at HOr
   go_wp2
   go_ret
   exact ⟨_, rfl, by rw [HT.out]; exact HOr.out, HBr.out, HKr.out⟩
theorem formNs_one (kind : Int) (occ : List Int) (k : Nd) : formNs kind true occ [k] = (if kind = 9 then signF (occ.headD 0) else []) ++ brF (decide (levN k < barK kind (occ.headD 0))) (formN k) := by
 rw [formNs, formNs, if_pos rfl]; simp
theorem headD_getD (occ : List Int) : occ.headD 0 = occ.getD 0 0 := by cases occ <;> rfl
theorem form_any (t : Nd) : FmOk t := by
 refine nd_ind (P := FmOk) ?_ t
 intro kind n field text lo hi occ ks ih w B x v l hx hbk hg hE hv hB hlen
 obtain ⟨oa, ka, oc, kc, e, -, hO, hK⟩ := hx.open_
 rw [e]
 have hkd := kid_of kind n field text lo hi occ ks ih
 have hb : field.length ≤ 300000000000 ∧ text.length ≤ 300000000000 ∧ lo.text.length ≤ 300000000000 ∧ hi.text.length ≤ 300000000000 ∧ bkNs ks ≤ 300000000000 := by rw [bkN] at hbk; omega
 have hgd := hg
 rw [goodN, Bool.and_eq_true] at hgd
 rcases own_cases hgd.1 with ⟨hL, ho, h0, h8, h9⟩ | ⟨h9, h15, hf, ht, hlo, hhi, hn0, hn1, hp, -, -, hz, h1⟩
 ·have hkn : 1 ≤ kind ∧ 0 ≤ n ∧ n ≤ 999999999 := by
   rcases hL with h | h | h | h | h | h | h | h <;> (obtain ⟨h1, h2⟩ := h; omega)
  obtain ⟨nn, rfl⟩ : ∃ k : Nat, n = (k : Int) := ⟨n.toNat, by omega⟩
  rw [formN, if_pos h9] at hlen ⊢
  by_cases hk8 : kind = 8
  ·subst hk8
   rw [if_pos rfl] at hlen ⊢
   exact form_8 _ field text lo hi occ ks w B oa ka oc kc v l hE hv hB (by simpa using hlen)
  ·rw [if_neg hk8] at hlen ⊢
   exact form_leaf kind nn field text lo hi occ ks w B oa ka oc kc v l hE hv hB ⟨hkn.1, by omega⟩ (by omega) hb.1 hb.2.1 hb.2.2.1 hb.2.2.2.1 hlen
 ·have h7 : kind = 9 ∨ kind = 10 ∨ kind = 11 ∨ kind = 12 ∨ kind = 13 ∨ kind = 14 ∨ kind = 15 := by omega
  rw [formN, if_neg (by omega)] at hlen ⊢
  rcases h7 with rfl | rfl | rfl | rfl | rfl | rfl | rfl
  ·exact form_9 n field text lo hi occ ks w B oa ka oc kc v l hE hv hB hkd hO hK hb.2.2.2.2 hg hlen
  ·exact form_10 n field text lo hi occ ks w B oa ka oc kc v l hE hv hB hkd hO hK hb.2.2.2.2 hg hlen
  ·exact form_11 n field text lo hi occ ks w B oa ka oc kc v l hE hv hB hkd hO hK hb.2.2.2.2 hg hlen
  ·exact form_12 n field text lo hi occ ks w B oa ka oc kc v l hE hv hB hkd hO hK hb.2.2.2.2 hg hlen
  all_goals
   obtain ⟨nn, rfl⟩ : ∃ k : Nat, n = (k : Int) := ⟨n.toNat, by omega⟩
   have hk1 := h1 (by omega)
  ·have e2 : aroundF 13 (nn : Int) (formNs 13 true occ ks) = ([78, 79, 84, 32] : List UInt8) ++ brF (decide (levN ks[0] < barK 13 (occ.getD 0 0))) (formN ks[0]) := by
    obtain ⟨k0, rfl⟩ := List.length_eq_one_iff.1 hk1
    rw [formNs_one, headD_getD]; rfl
   rw [e2] at hlen ⊢
   rw [← List.append_assoc]
   exact form_13 _ field text lo hi occ ks w B oa ka oc kc v l hE hv hB hkd hp hO hK hb.2.2.2.2 hg (by simp only [List.length_append, List.length_cons, List.length_nil] at hlen; omega)
  ·have e2 : l ++ aroundF 14 (nn : Int) (formNs 14 true occ ks) = l ++ brF (decide (levN ks[0] < barK 14 (occ.getD 0 0))) (formN ks[0]) ++ ([94] : List UInt8) ++ decN nn := by
    obtain ⟨k0, rfl⟩ := List.length_eq_one_iff.1 hk1
    rw [formNs_one, headD_getD]; simp [aroundF]
   rw [← List.length_append, e2] at hlen
   rw [e2]
   exact form_14 nn field text lo hi occ ks w B oa ka oc kc v l hE hv hB (by omega) hkd hp hO hK hb.2.2.2.2 hg (by simp only [List.length_append, List.length_cons, List.length_nil] at hlen; omega)
  ·have e2 : l ++ aroundF 15 (nn : Int) (formNs 15 true occ ks) = l ++ brF (decide (levN ks[0] < barK 15 (occ.getD 0 0))) (formN ks[0]) ++ ([94, 61] : List UInt8) ++ decN nn := by
    obtain ⟨k0, rfl⟩ := List.length_eq_one_iff.1 hk1
    rw [formNs_one, headD_getD]; simp [aroundF]
   rw [← List.length_append, e2] at hlen
   rw [e2]
   exact form_15 nn field text lo hi occ ks w B oa ka oc kc v l hE hv hB (by omega) hkd hp hO hK hb.2.2.2.2 hg (by simp only [List.length_append, List.length_cons, List.length_nil] at hlen; omega)
mutual
theorem canon_bk : ∀ t : Nd, bkN (canonN t) ≤ bkN t
 | .mk kind field text n lo hi occ ks => by
  have h2 := canons_bk ks
  rw [canonN]
  rcases canTop_cases kind field text n lo hi occ (canonNs ks) with ⟨c, hc, _, e⟩ | ⟨hn, e⟩
  ·rw [e, bkN]
   rw [hc, bkNs, bkNs] at h2
   omega
  ·rw [e, bkN, bkN]; omega
theorem canons_bk : ∀ l : List Nd, bkNs (canonNs l) ≤ bkNs l
 | [] => Nat.le_refl _
 | k :: ks => by
  have h := canon_bk k
  have h2 := canons_bk ks
  rw [canonNs, bkNs, bkNs]; omega
end
theorem patTo_len15 (l : List Sg) : ∀ k, (patTo l k).length ≤ 2 * k
 | 0 => by simp [patTo]
 | k + 1 => by
  have ih := patTo_len15 l k
  rw [patTo, List.length_append]
  have h : ∀ o : Option Sg, (match o with | some x => patSg (k == 0) x | none => []).length ≤ 2 := fun o => by
   cases o with
   | none => simp
   | some x =>
    show (patSg (k == 0) x).length ≤ 2
    unfold patSg; split
    ·simp
    ·exact esc_length _ _
  refine Nat.le_trans (Nat.add_le_add ih (h l[k]?)) (by omega)
theorem patternL_len15 (l : List UInt8) : (patternL l).length ≤ 2 * l.length := by
 unfold patternL
 split
 ·simp
 ·split
  ·have h1 := patTo_len15 (signs l) (signs l).length
   have h2 := signs_length l
   omega
  ·simp
theorem leafF_len (kind : Int) (text : List UInt8) (n : Int) (lo hi : Bd) (hn : n ≤ 999999999) : (leafF kind text n lo hi).length ≤ 4 * text.length + 2 * lo.text.length + 2 * hi.text.length + 24 := by
 have hd : (decN n.toNat).length ≤ 20 := decN_len _ (by omega)
 have hw := wordL_len15 text
 have hq := quoteL_len15 text
 have hp := patternL_len15 text
 have hl := litL_length text
 have hp2 := patternL_len15 (litL text ++ [42])
 have h1 := sideF_len lo
 have h2 := sideF_len hi
 rw [List.length_append, List.length_singleton] at hp2
 unfold leafF
 repeat' split
 all_goals (try simp only [List.length_append, List.length_cons, List.length_nil])
 all_goals omega
theorem headF_len (f : List UInt8) : (headF f).length ≤ 2 * f.length + 2 := by
 unfold headF
 have := wordL_len15 f
 split
 ·simp
 ·rw [List.length_append, List.length_singleton]; omega
theorem aroundF_len (kind n : Int) (s : List UInt8) (hn : n ≤ 999999999) : (aroundF kind n s).length ≤ s.length + 24 := by
 have hd : (decN n.toNat).length ≤ 20 := decN_len _ (by omega)
 unfold aroundF
 repeat' split
 all_goals (try simp only [List.length_append, List.length_cons, List.length_nil])
 all_goals omega
theorem good_num {kind : Int} {field text : List UInt8} {n : Int} {lo hi : Bd} {occ : List Int} {ks : List Nd} (h : goodN (.mk kind field text n lo hi occ ks) = true) : 1 ≤ kind ∧ kind ≤ 15 ∧ 0 ≤ n ∧ n ≤ 999999999 := by
 rw [goodN, Bool.and_eq_true] at h
 rcases own_cases h.1 with ⟨hL, ho, h0, h8, h9⟩ | ⟨h9, h15, hf, ht, hlo, hhi, hn0, hn1, hp, -, -, hz, h1⟩
 ·rcases hL with h | h | h | h | h | h | h | h <;> (obtain ⟨h1, h2⟩ := h; omega)
 ·omega
theorem brF_len (b : Bool) (s : List UInt8) : (brF b s).length ≤ s.length + 2 := by unfold brF; split <;> simp
theorem signF_len (o : Int) : (signF o).length ≤ 1 := by
 unfold signF
 repeat' split
 all_goals simp
theorem sepF_len (kind : Int) : (sepF kind).length ≤ 5 := by
 unfold sepF
 repeat' split
 all_goals simp
mutual
theorem form_len : ∀ t : Nd, goodN t = true → (formN t).length + 8 ≤ 4 * bkN t + 40 * sizeN t
 | .mk kind field text n lo hi occ ks, h => by
  have hn := good_num h
  rw [goodN, Bool.and_eq_true] at h
  have hs := forms_len ks kind true occ h.2
  have ha := aroundF_len kind n (formNs kind true occ ks) hn.2.2.2
  have hl := leafF_len kind text n lo hi hn.2.2.2
  have hh := headF_len field
  rw [formN, bkN, sizeN]
  split
  ·split
   ·simp only [List.length_cons, List.length_nil]; omega
   ·rw [List.length_append]; omega
  ·omega
theorem forms_len : ∀ (l : List Nd) (kind : Int) (b : Bool) (occ : List Int), goodNs l = true → (formNs kind b occ l).length ≤ 4 * bkNs l + 40 * sizeNs l
 | [], kind, b, occ, _ => by rw [formNs]; simp
 | k :: ks, kind, b, occ, h => by
  rw [goodNs, Bool.and_eq_true] at h
  have h1 := form_len k h.1
  have h2 := forms_len ks kind false occ.tail h.2
  have h3 := brF_len (decide (levN k < barK kind (occ.headD 0))) (formN k)
  have h4 := signF_len (occ.headD 0)
  have h5 := sepF_len kind
  rw [formNs, bkNs, sizeNs, List.length_append, List.length_append, List.length_append]
  have e1 : (if b = true then [] else sepF kind).length ≤ 5 := by
   cases b
   ·exact h5
   ·exact Nat.zero_le _
  have e2 : (if kind = 9 then signF (occ.headD 0) else []).length ≤ 1 := by
   by_cases h9 : kind = 9
   ·rw [if_pos h9]; exact h4
   ·rw [if_neg h9]; exact Nat.zero_le _
  omega
end
mutual
theorem size_wt : ∀ t : Nd, sizeN t ≤ wtN t
 | .mk kind field text n lo hi occ ks => by
  have h := sizes_wt ks
  rw [sizeN, wtN]; omega
theorem sizes_wt : ∀ l : List Nd, sizeNs l ≤ wtNs l
 | [] => Nat.le_refl _
 | k :: ks => by
  have h := size_wt k
  have h2 := sizes_wt ks
  rw [sizeNs, wtNs]; omega
end
end Go.Proofs.YthcldpminmhgkaaDoor
end
