/- Merged for a claim by shake.py: Jaf Jag Jah Jai -/
import Derived.Test.YthcldpminmhgkaaDoorKrA
import Derived.Test.YthcldpminmhgkaaDoorKr28
set_option maxRecDepth 100000
set_option maxHeartbeats 4000000
set_option linter.unusedSimpArgs false
set_option linter.unusedVariables false
section
namespace Go.Proofs.YthcldpminmhgkaaDoor
open Go.RowKit
theorem OwnB.appStrU {w : World} {B : Nat} {v : Value} {l : List UInt8} (h : OwnB w B v l) (s : ByteArray) {ops : Array Oper} {rest : List Oper} {o : Oper} {a : Act} {Q : Exit → Act → World → Prop} (hgd : o.guard = none) (sl y : Operand)
  (ho : o.op = .call { callee := .builtin .append, args := #[sl, y], argTypes := #[64, 9] }) (hs : a.eval sl = v) (hy : a.eval y = .string s) (hB : B ≤ w.heap.size) (hl : l.length + s.size ≤ 140737488355328)
  (k : ∀ v' w', OwnB w' B v' (l ++ s.data.toList) → Below B w w' → KeptBut w w' v → wpList Tryd.prog ops Q rest (a.put o.dst v') w') :
  wpList Tryd.prog ops Q (o :: rest) a w := by
 obtain ⟨i0, hi, hz0, hz1, hz2⟩ := info_parts infoB
 have hlt := h.lt
 refine Lib.wpList_append_own_string w hgd sl y 64 9 ho B 5 i0 Tryd.underlying64 Tryd.underlying9 hi hz0 hz1 hz2 v l.length (byteVals l) hs h s hy ?_ ?_ hB ?_
 ·unfold maxLen; omega
 ·omega
 ·intro v' w' h2 h3 _
  refine k v' w' ?_ ?_ (fun b hb hv => h3.block b hb (fun e => hv e.symm))
  ·unfold OwnB
   have e : (l ++ s.data.toList).length = l.length + s.size := by rw [List.length_append, Array.length_toList]; rfl
   rw [e, show byteVals (l ++ s.data.toList) = byteVals l ++ Lib.strCells s from by unfold byteVals Lib.strCells; rw [List.map_append]]
   exact h2
  ·exact (Below.refl _ _).grown h3 hB (fun g hg => (hlt g hg).1)
theorem form_8 (n : Int) (field text : List UInt8) (lo hi : Bd) (occ : List Int) (ks : List Nd) (w : World) (B : Nat) (oa ka : Option Addr) (oc kc : Nat) (v : Value) (l : List UInt8) (hE : PrEnv w B) (hv : OwnB w B v l) (hB : B ≤ w.heap.size) (hlen : l.length + 3 ≤ 100000000000000) :
  Calls Tryd.prog 36 #[v, .agg #[.int .i64 8, .string (str field), .string (str text), .int .i64 n, .bool lo.open_, .bool lo.in_, .string (str lo.text), .bool hi.open_, .bool hi.in_, .string (str hi.text), .slice oa occ.length oc, .slice ka ks.length kc]] w (RetU w B (l ++ [42, 58, 42])) := by
 have HO0 := LH (hv.alloc (.cells #[.int .i64 8, .string (str field), .string (str text), .int .i64 n, .bool lo.open_, .bool lo.in_, .string (str lo.text), .bool hi.open_, .bool hi.in_, .string (str hi.text), .slice oa occ.length oc, .slice ka ks.length kc] 27))
 have HBA := LH ((Below.refl w.heap.size w).alloc (Nat.le_refl _) (.cells #[.int .i64 8, .string (str field), .string (str text), .int .i64 n, .bool lo.open_, .bool lo.in_, .string (str lo.text), .bool hi.open_, .bool hi.in_, .string (str hi.text), .slice oa occ.length oc, .slice ka ks.length kc] 27))
 have HB0 := LH (HBA.out.mono hB)
 have HK0 := LH (Oth.below HBA.out)
 have HA0 := LH (Blk.new w 27 #[.int .i64 8, .string (str field), .string (str text), .int .i64 n, .bool lo.open_, .bool lo.in_, .string (str lo.text), .bool hi.open_, .bool hi.in_, .string (str hi.text), .slice oa occ.length oc, .slice ka ks.length kc])
 have HZ0 := LH (Nat.le_trans hB HBA.out.size)
 have HE := LH hE
 clear HBA hE hv
 have hsz : l.length + (⟨#[42, 58, 42]⟩ : ByteArray).size ≤ 140737488355328 := by rw [show (⟨#[42, 58, 42]⟩ : ByteArray).size = 3 from rfl]; omega
 go_enter Tryd.func36, Tryd.ntmps36
 go_wp2_with (at_builtin; refine OwnB.appStrU HO0.out _ rfl _ _ rfl rfl rfl HZ0.out hsz ?_)
 intro va wa h2 h3 h3k
 have HOa := LH (show OwnB wa B va (l ++ [42, 58, 42]) from by first | exact h2 | simpa [str_data] using h2)
 have HBa := LH (HB0.out.trans h3)
 have HKa := LH (HK0.out.trans (HO0.out.oth h3k))
 have HAa := LH ((HO0.out.oth h3k).blk HA0.out (by decide))
 have HZa := LH (Nat.le_trans hB HBa.out.size)
 clear h2 h3 h3k
 go_wp2
 go_ret
 exact ⟨va, rfl, HOa.out, HBa.out, HKa.out⟩
theorem form_9 (n : Int) (field text : List UInt8) (lo hi : Bd) (occ : List Int) (ks : List Nd) (w : World) (B : Nat) (oa ka : Option Addr) (oc kc : Nat) (v : Value) (l : List UInt8) (hE : PrEnv w B) (hv : OwnB w B v l) (hB : B ≤ w.heap.size) (hkd : KdOk 9 n field text lo hi occ ks) (hO : RdF folS w (fun b => b < B) ⟨oa, occ.length, oc⟩ occ) (hK : KidsR w (fun b => b < B) ka kc ks) (hbk : bkNs ks ≤ 300000000000) (hg : goodN (.mk 9 field text n lo hi occ ks) = true) (hlen : l.length + (aroundF 9 n (formNs 9 true occ ks)).length ≤ 100000000000000) :
  Calls Tryd.prog 36 #[v, .agg #[.int .i64 9, .string (str field), .string (str text), .int .i64 n, .bool lo.open_, .bool lo.in_, .string (str lo.text), .bool hi.open_, .bool hi.in_, .string (str hi.text), .slice oa occ.length oc, .slice ka ks.length kc]] w (RetU w B (l ++ aroundF 9 n (formNs 9 true occ ks))) := by
 have HO0 := LH (hv.alloc (.cells #[.int .i64 9, .string (str field), .string (str text), .int .i64 n, .bool lo.open_, .bool lo.in_, .string (str lo.text), .bool hi.open_, .bool hi.in_, .string (str hi.text), .slice oa occ.length oc, .slice ka ks.length kc] 27))
 have HBA := LH ((Below.refl w.heap.size w).alloc (Nat.le_refl _) (.cells #[.int .i64 9, .string (str field), .string (str text), .int .i64 n, .bool lo.open_, .bool lo.in_, .string (str lo.text), .bool hi.open_, .bool hi.in_, .string (str hi.text), .slice oa occ.length oc, .slice ka ks.length kc] 27))
 have HB0 := LH (HBA.out.mono hB)
 have HK0 := LH (Oth.below HBA.out)
 have HA0 := LH (Blk.new w 27 #[.int .i64 9, .string (str field), .string (str text), .int .i64 n, .bool lo.open_, .bool lo.in_, .string (str lo.text), .bool hi.open_, .bool hi.in_, .string (str hi.text), .slice oa occ.length oc, .slice ka ks.length kc])
 have HZ0 := LH (Nat.le_trans hB HBA.out.size)
 have HE := LH hE
 have HL := LH (list_of n field text lo hi occ ks hkd (w.alloc (.cells #[.int .i64 9, .string (str field), .string (str text), .int .i64 n, .bool lo.open_, .bool lo.in_, .string (str lo.text), .bool hi.open_, .bool hi.in_, .string (str hi.text), .slice oa occ.length oc, .slice ka ks.length kc] 27)) B oa ka oc kc v l (hO.belowB HB0.out) (hK.belowB HB0.out) hbk hg (hE.belowB HB0.out) HO0.out HZ0.out hlen)
 generalize aroundF 9 n (formNs 9 true occ ks) = T at *
 clear HBA hE hv hkd hO hK hg hbk
 go_enter Tryd.func36, Tryd.ntmps36
 go_wp2_with fail
 refine HL.out.mono ?_
 rintro e w4 ⟨v4, rfl, ho4, hb4, hk4⟩
 have HO4 := LH ho4; have HB4 := LH (HB0.out.trans hb4); have HK4 := LH (HK0.out.trans hk4)
 clear ho4 hb4 hk4
 go_wp2
 go_ret
 exact ⟨v4, rfl, HO4.out, HB4.out, HK4.out⟩
theorem form_leaf (kind : Int) (n : Nat) (field text : List UInt8) (lo hi : Bd) (occ : List Int) (ks : List Nd) (w : World) (B : Nat) (oa ka : Option Addr) (oc kc : Nat) (v : Value) (l : List UInt8) (hE : PrEnv w B) (hv : OwnB w B v l) (hB : B ≤ w.heap.size) (hk : 1 ≤ kind ∧ kind < 8) (hn : n < 9223372036854775808) (hf : field.length ≤ 300000000000) (ht : text.length ≤ 300000000000) (hl : lo.text.length ≤ 300000000000) (hh : hi.text.length ≤ 300000000000) (hlen : l.length + (headF field ++ leafF kind text n lo hi).length ≤ 100000000000000) :
  Calls Tryd.prog 36 #[v, .agg #[.int .i64 kind, .string (str field), .string (str text), .int .i64 (n : Int), .bool lo.open_, .bool lo.in_, .string (str lo.text), .bool hi.open_, .bool hi.in_, .string (str hi.text), .slice oa occ.length oc, .slice ka ks.length kc]] w (RetU w B (l ++ (headF field ++ leafF kind text n lo hi))) := by
 have HO0 := LH (hv.alloc (.cells #[.int .i64 kind, .string (str field), .string (str text), .int .i64 (n : Int), .bool lo.open_, .bool lo.in_, .string (str lo.text), .bool hi.open_, .bool hi.in_, .string (str hi.text), .slice oa occ.length oc, .slice ka ks.length kc] 27))
 have HBA := LH ((Below.refl w.heap.size w).alloc (Nat.le_refl _) (.cells #[.int .i64 kind, .string (str field), .string (str text), .int .i64 (n : Int), .bool lo.open_, .bool lo.in_, .string (str lo.text), .bool hi.open_, .bool hi.in_, .string (str hi.text), .slice oa occ.length oc, .slice ka ks.length kc] 27))
 have HB0 := LH (HBA.out.mono hB)
 have HK0 := LH (Oth.below HBA.out)
 have HA0 := LH (Blk.new w 27 #[.int .i64 kind, .string (str field), .string (str text), .int .i64 (n : Int), .bool lo.open_, .bool lo.in_, .string (str lo.text), .bool hi.open_, .bool hi.in_, .string (str hi.text), .slice oa occ.length oc, .slice ka ks.length kc])
 have HZ0 := LH (Nat.le_trans hB HBA.out.size)
 have HE := LH hE
 have t8 : (kind == 8) = false := by rw [beq_eq_false_iff_ne]; omega
 have t9 : (kind == 9) = false := by rw [beq_eq_false_iff_ne]; omega
 have t10 : (kind == 10) = false := by rw [beq_eq_false_iff_ne]; omega
 have t11 : (kind == 11) = false := by rw [beq_eq_false_iff_ne]; omega
 have t12 : (kind == 12) = false := by rw [beq_eq_false_iff_ne]; omega
 have t13 : (kind == 13) = false := by rw [beq_eq_false_iff_ne]; omega
 have t14 : (kind == 14) = false := by rw [beq_eq_false_iff_ne]; omega
 have t15 : (kind == 15) = false := by rw [beq_eq_false_iff_ne]; omega
 clear HBA hE hv
 rw [List.length_append] at hlen
 by_cases h0 : field = []
 ·subst h0
  have e0 : ((str []).toList != []) = false := by rw [ba_toList]; rfl
  have e1 : ((str []).toList == []) = true := by rw [ba_toList]; rfl
  have HHF := LH (show headF [] = [] from rfl)
  rw [HHF.out, List.length_nil] at hlen
  go_enter Tryd.func36, Tryd.ntmps36
  have HL := LH (fun (W : World) (hW : Below B w W) => prleaf_any (kind := kind) (n := n) (field := []) (text := text) (lo := lo) (hi := hi) (oa := oa) (ka := ka) (on := occ.length) (oc := oc) (kn := ks.length) (kc := kc) (w := W) hk hn ht hl hh (HE.out.belowB hW).cls (HE.out.belowB hW).pow)
  generalize leafF kind text n lo hi = lf at *
  clear HE
  go_wp2_with fail
  refine (HL.out _ HB0.out).mono ?_
  rintro e w5 ⟨rfl, hb5⟩
  have HO5 := LH (HO0.out.below hb5); have HB5 := LH (HB0.out.trans (hb5.mono HZ0.out)); have HK5 := LH (HK0.out.trans (Oth.below hb5)); have HA5 := LH (HA0.out.belowW hb5)
  have HZ5 := LH (Nat.le_trans hB HB5.out.size)
  have hsz5 : (l).length + (str lf).size ≤ 140737488355328 := by rw [str_size]; first | omega | (simp only [List.length_append, List.length_singleton]; omega)
  clear hb5
  go_wp2_with (at_builtin; refine OwnB.appStrU HO5.out (str lf) rfl _ _ rfl rfl rfl HZ5.out hsz5 ?_)
  intro v6 w6 h2 h3 h3k
  have HO6 := LH (show OwnB w6 B v6 (l ++ lf) from by first | exact h2 | simpa [str_data] using h2)
  have HB6 := LH (HB5.out.trans h3)
  have HK6 := LH (HK5.out.trans (HO5.out.oth h3k))
  have HA6 := LH ((HO5.out.oth h3k).blk HA5.out (by decide))
  have HZ6 := LH (Nat.le_trans hB HB6.out.size)
  clear h2 h3 h3k
  go_wp2
  go_ret
  exact ⟨v6, rfl, by rw [HHF.out]; exact HO6.out, HB6.out, HK6.out⟩
 ·have e1 : ((str field).toList == []) = false := by rw [ba_toList, str_data]; cases field with | nil => exact absurd rfl h0 | cons c q => rfl
  have e0 : ((str field).toList != []) = true := by rw [bne, e1]; rfl
  have HHF := LH (show headF field = wordL field ++ [58] from by unfold headF; rw [if_neg h0])
  rw [HHF.out, List.length_append, List.length_singleton] at hlen
  have HWD := LH (fun (W : World) (hW : Below B w W) => word_any (str field) W (HE.out.belowB hW).cls (by rw [str_size]; omega))
  simp only [str_data] at HWD
  generalize wordL field = wf at *
  clear h0
  go_enter Tryd.func36, Tryd.ntmps36
  go_wp2_with fail
  refine (HWD.out _ HB0.out).mono ?_
  rintro e w1 ⟨rfl, hb1⟩
  have HO1 := LH (HO0.out.below hb1); have HB1 := LH (HB0.out.trans (hb1.mono HZ0.out)); have HK1 := LH (HK0.out.trans (Oth.below hb1)); have HA1 := LH (HA0.out.belowW hb1)
  have HZ1 := LH (Nat.le_trans hB HB1.out.size)
  have hsz1 : l.length + (str wf).size ≤ 140737488355328 := by rw [str_size]; omega
  clear hb1
  go_wp2_with (at_builtin; refine OwnB.appStrU HO1.out (str wf) rfl _ _ rfl rfl rfl HZ1.out hsz1 ?_)
  intro v2 w2 h2 h3 h3k
  have HO2 := LH (show OwnB w2 B v2 (l ++ wf) from by first | exact h2 | simpa [str_data] using h2)
  have HB2 := LH (HB1.out.trans h3)
  have HK2 := LH (HK1.out.trans (HO1.out.oth h3k))
  have HA2 := LH ((HO1.out.oth h3k).blk HA1.out (by decide))
  have HZ2 := LH (Nat.le_trans hB HB2.out.size)
  clear h2 h3 h3k
  go_wp2_with (at_builtin; refine OwnB.appendAt HO2.out _ _ rfl _ _ rfl rfl rfl ?_ ?_ ?_ HZ2.out ?_ ?_)
  all_goals first | omega | exact (World.size_alloc ..).symm | (simp only [List.length_append, List.length_singleton]; omega) | skip
  intro v3 w3 h2 h3 h3k
  have HO3 := LH (show OwnB w3 B v3 (l ++ wf ++ [58]) from by simpa using h2)
  have HB3 := LH (HB2.out.trans h3)
  have HK3 := LH (HK2.out.trans (HO2.out.oth h3k))
  have HA3 := LH ((HO2.out.oth h3k).blk HA2.out (by decide))
  have HZ3 := LH (Nat.le_trans hB HB3.out.size)
  clear h2 h3 h3k
  have hax := HA3.out
  obtain ⟨d0, d1, d2, d3, d4, d5, d6, d7, d8, d9, d10, d11, -, -, -, -, -, -, -, -, -, -, -, -, dl⟩ := blk12 hax
  clear hax
  have HL := LH (fun (W : World) (hW : Below B w W) => prleaf_any (kind := kind) (n := n) (field := field) (text := text) (lo := lo) (hi := hi) (oa := oa) (ka := ka) (on := occ.length) (oc := oc) (kn := ks.length) (kc := kc) (w := W) hk hn ht hl hh (HE.out.belowB hW).cls (HE.out.belowB hW).pow)
  generalize leafF kind text n lo hi = lf at *
  clear HE
  go_wp2_with fail
  refine (HL.out _ HB3.out).mono ?_
  rintro e w5 ⟨rfl, hb5⟩
  have HO5 := LH (HO3.out.below hb5); have HB5 := LH (HB3.out.trans (hb5.mono HZ3.out)); have HK5 := LH (HK3.out.trans (Oth.below hb5)); have HA5 := LH (HA3.out.belowW hb5)
  have HZ5 := LH (Nat.le_trans hB HB5.out.size)
  have hsz5 : (l ++ wf ++ [58]).length + (str lf).size ≤ 140737488355328 := by rw [str_size]; first | omega | (simp only [List.length_append, List.length_singleton]; omega)
  clear hb5
  go_wp2_with (at_builtin; refine OwnB.appStrU HO5.out (str lf) rfl _ _ rfl rfl rfl HZ5.out hsz5 ?_)
  intro v6 w6 h2 h3 h3k
  have HO6 := LH (show OwnB w6 B v6 (l ++ wf ++ [58] ++ lf) from by first | exact h2 | simpa [str_data] using h2)
  have HB6 := LH (HB5.out.trans h3)
  have HK6 := LH (HK5.out.trans (HO5.out.oth h3k))
  have HA6 := LH ((HO5.out.oth h3k).blk HA5.out (by decide))
  have HZ6 := LH (Nat.le_trans hB HB6.out.size)
  clear h2 h3 h3k
  go_wp2
  go_ret
  exact ⟨v6, rfl, by rw [HHF.out]; simpa using HO6.out, HB6.out, HK6.out⟩
theorem form_13 (n : Int) (field text : List UInt8) (lo hi : Bd) (occ : List Int) (ks : List Nd) (w : World) (B : Nat) (oa ka : Option Addr) (oc kc : Nat) (v : Value) (l : List UInt8) (hE : PrEnv w B) (hv : OwnB w B v l) (hB : B ≤ w.heap.size) (hkd : KdOk 13 n field text lo hi occ ks) (h0 : 0 < ks.length) (hO : RdF folS w (fun b => b < B) ⟨oa, occ.length, oc⟩ occ) (hK : KidsR w (fun b => b < B) ka kc ks) (hbk : bkNs ks ≤ 300000000000) (hg : goodN (.mk 13 field text n lo hi occ ks) = true) (hlen : l.length + 4 + (brF (decide (levN ks[0] < barK 13 (occ.getD 0 0))) (formN ks[0])).length ≤ 100000000000000) :
  Calls Tryd.prog 36 #[v, .agg #[.int .i64 13, .string (str field), .string (str text), .int .i64 n, .bool lo.open_, .bool lo.in_, .string (str lo.text), .bool hi.open_, .bool hi.in_, .string (str hi.text), .slice oa occ.length oc, .slice ka ks.length kc]] w (RetU w B (l ++ ([78, 79, 84, 32] : List UInt8) ++ brF (decide (levN ks[0] < barK 13 (occ.getD 0 0))) (formN ks[0]))) := by
 have HO0 := LH (hv.alloc (.cells #[.int .i64 13, .string (str field), .string (str text), .int .i64 n, .bool lo.open_, .bool lo.in_, .string (str lo.text), .bool hi.open_, .bool hi.in_, .string (str hi.text), .slice oa occ.length oc, .slice ka ks.length kc] 27))
 have HBA := LH ((Below.refl w.heap.size w).alloc (Nat.le_refl _) (.cells #[.int .i64 13, .string (str field), .string (str text), .int .i64 n, .bool lo.open_, .bool lo.in_, .string (str lo.text), .bool hi.open_, .bool hi.in_, .string (str hi.text), .slice oa occ.length oc, .slice ka ks.length kc] 27))
 have HB0 := LH (HBA.out.mono hB)
 have HK0 := LH (Oth.below HBA.out)
 have HA0 := LH (Blk.new w 27 #[.int .i64 13, .string (str field), .string (str text), .int .i64 n, .bool lo.open_, .bool lo.in_, .string (str lo.text), .bool hi.open_, .bool hi.in_, .string (str hi.text), .slice oa occ.length oc, .slice ka ks.length kc])
 have HZ0 := LH (Nat.le_trans hB HBA.out.size)
 have HE := LH hE
 have HKD := LH (fun (W : World) (hW : Below B w W) (u : Value) (hu : OwnB W B u (l ++ [78, 79, 84, 32])) => (show Calls Tryd.prog 55 #[u, .agg #[.int .i64 13, .string (str field), .string (str text), .int .i64 n, .bool lo.open_, .bool lo.in_, .string (str lo.text), .bool hi.open_, .bool hi.in_, .string (str hi.text), .slice oa occ.length oc, .slice ka ks.length kc], .int .i64 0] W (RetU W B (l ++ ([78, 79, 84, 32] : List UInt8) ++ brF (decide (levN ks[0] < barK 13 (occ.getD 0 0))) (formN ks[0]))) from hkd W B oa ka oc kc u (l ++ [78, 79, 84, 32]) 0 h0 (hO.belowB hW) (hK.belowB hW) hbk hg (hE.belowB hW) hu (Nat.le_trans hB hW.size) (by rw [List.length_append]; simp only [List.length_cons, List.length_nil]; omega)))
 generalize brF (decide (levN ks[0] < barK 13 (occ.getD 0 0))) (formN ks[0]) = kf at *
 have hts : l.length + (⟨#[78, 79, 84, 32]⟩ : ByteArray).size ≤ 140737488355328 := by rw [show (⟨#[78, 79, 84, 32]⟩ : ByteArray).size = 4 from rfl]; omega
 clear HBA hE hv hkd hO hK hg hbk h0
 go_enter Tryd.func36, Tryd.ntmps36
 go_wp2_with fail
 generalize (w.alloc (.cells #[.int .i64 13, .string (str field), .string (str text), .int .i64 n, .bool lo.open_, .bool lo.in_, .string (str lo.text), .bool hi.open_, .bool hi.in_, .string (str hi.text), .slice oa occ.length oc, .slice ka ks.length kc] 27)) = w0 at *
 have hax := HA0.out
 obtain ⟨d0, d1, d2, d3, d4, d5, d6, d7, d8, d9, d10, d11, -, -, -, -, -, -, -, -, -, -, -, -, dl⟩ := blk12 hax
 clear hax
 go_region_law (first
  | ((refine OwnB.stepStrU HO0.out.drew ⟨#[78, 79, 84, 32]⟩ rfl _ _ rfl rfl rfl HZ0.out hts (fun v6 w6 h6 h7 h8 => ?_)); (have h9 := (show OwnB w6 B v6 (l ++ [78, 79, 84, 32]) from h6)); (have h10 := Below.trans (Below.drew HB0.out) h7); (have h11 := Oth.trans HK0.out (Oth.undrew (OwnB.oth (OwnB.drew HO0.out) h8))); (have hax := (Oth.blk (OwnB.oth (OwnB.drew HO0.out) h8) (Blk.drew HA0.out) (by decide)); have e0 := hax.cell 0; have e1 := hax.cell 1; have e2 := hax.cell 2; have e3 := hax.cell 3; have e4 := hax.cell 4; have e5 := hax.cell 5; have e6 := hax.cell 6; have e7 := hax.cell 7; have e8 := hax.cell 8; have e9 := hax.cell 9; have e10 := hax.cell 10; have e11 := hax.cell 11; simp only [List.getElem?_toArray, List.getElem?_cons_zero, List.getElem?_cons_succ] at e0 e1 e2 e3 e4 e5 e6 e7 e8 e9 e10 e11))
  | (go_simp; go_at_call 55; refine (HKD.out _ (by assumption) _ (by assumption)).mono ?_; rintro e w7 ⟨v7, rfl, k1, k2, k3⟩))
 all_goals
  have HF1 := LH k1
  have HF2 := LH (Below.trans h10 k2)
  have HF3 := LH (Oth.trans h11 k3)
  clear k1 k2 k3 h10 h11
  go_wp2
  go_ret
  exact ⟨v7, rfl, by simpa using HF1.out, HF2.out, HF3.out⟩
theorem form_14 (nn : Nat) (field text : List UInt8) (lo hi : Bd) (occ : List Int) (ks : List Nd) (w : World) (B : Nat) (oa ka : Option Addr) (oc kc : Nat) (v : Value) (l : List UInt8) (hE : PrEnv w B) (hv : OwnB w B v l) (hB : B ≤ w.heap.size) (hn : nn < 9223372036854775808) (hkd : KdOk 14 (nn : Int) field text lo hi occ ks) (h0 : 0 < ks.length) (hO : RdF folS w (fun b => b < B) ⟨oa, occ.length, oc⟩ occ) (hK : KidsR w (fun b => b < B) ka kc ks) (hbk : bkNs ks ≤ 300000000000) (hg : goodN (.mk 14 field text (nn : Int) lo hi occ ks) = true) (hlen : l.length + (brF (decide (levN ks[0] < barK 14 (occ.getD 0 0))) (formN ks[0])).length ≤ 100000000000000) :
  Calls Tryd.prog 36 #[v, .agg #[.int .i64 14, .string (str field), .string (str text), .int .i64 (nn : Int), .bool lo.open_, .bool lo.in_, .string (str lo.text), .bool hi.open_, .bool hi.in_, .string (str hi.text), .slice oa occ.length oc, .slice ka ks.length kc]] w (RetU w B (l ++ brF (decide (levN ks[0] < barK 14 (occ.getD 0 0))) (formN ks[0]) ++ ([94] : List UInt8) ++ decN nn)) := by
 have HO0 := LH (hv.alloc (.cells #[.int .i64 14, .string (str field), .string (str text), .int .i64 (nn : Int), .bool lo.open_, .bool lo.in_, .string (str lo.text), .bool hi.open_, .bool hi.in_, .string (str hi.text), .slice oa occ.length oc, .slice ka ks.length kc] 27))
 have HBA := LH ((Below.refl w.heap.size w).alloc (Nat.le_refl _) (.cells #[.int .i64 14, .string (str field), .string (str text), .int .i64 (nn : Int), .bool lo.open_, .bool lo.in_, .string (str lo.text), .bool hi.open_, .bool hi.in_, .string (str hi.text), .slice oa occ.length oc, .slice ka ks.length kc] 27))
 have HB0 := LH (HBA.out.mono hB)
 have HK0 := LH (Oth.below HBA.out)
 have HA0 := LH (Blk.new w 27 #[.int .i64 14, .string (str field), .string (str text), .int .i64 (nn : Int), .bool lo.open_, .bool lo.in_, .string (str lo.text), .bool hi.open_, .bool hi.in_, .string (str hi.text), .slice oa occ.length oc, .slice ka ks.length kc])
 have HZ0 := LH (Nat.le_trans hB HBA.out.size)
 have HE := LH hE
 have HKD := LH (fun (W : World) (hW : Below B w W) (u : Value) (hu : OwnB W B u l) => (show Calls Tryd.prog 55 #[u, .agg #[.int .i64 14, .string (str field), .string (str text), .int .i64 (nn : Int), .bool lo.open_, .bool lo.in_, .string (str lo.text), .bool hi.open_, .bool hi.in_, .string (str hi.text), .slice oa occ.length oc, .slice ka ks.length kc], .int .i64 0] W (RetU W B (l ++ brF (decide (levN ks[0] < barK 14 (occ.getD 0 0))) (formN ks[0]))) from hkd W B oa ka oc kc u l 0 h0 (hO.belowB hW) (hK.belowB hW) hbk hg (hE.belowB hW) hu (Nat.le_trans hB hW.size) hlen))
 generalize brF (decide (levN ks[0] < barK 14 (occ.getD 0 0))) (formN ks[0]) = kf at *
 obtain ⟨T, hT⟩ : ∃ T, T = l ++ kf := ⟨_, rfl⟩
 rw [← hT] at HKD
 have hTl : T.length ≤ 100000000000000 := by rw [hT, List.length_append]; exact hlen
 have HTT := LH hT
 have HAI := LH (fun (W : World) (hW : Below B w W) (u : Value) (hu : OwnB W B u (T ++ ([94] : List UInt8))) => appintU nn hn u B (T ++ ([94] : List UInt8)) W (hE.belowB hW) hu (Nat.le_trans hB hW.size) (by rw [List.length_append]; simp only [List.length_cons, List.length_nil]; omega))
 have hts : T.length + (⟨#[94]⟩ : ByteArray).size ≤ 140737488355328 := by rw [show (⟨#[94]⟩ : ByteArray).size = 1 from rfl]; omega
 have HAS := LH (fun (W : World) (hW : Below B w W) => (show W.cell? ⟨17, 149, none⟩ = some (.string ⟨#[94]⟩) from (hE.belowB hW).asks.1 149 _ rfl))
 have HAG := LH (fun (W : World) (hW : Below B w W) => (hE.belowB hW).asks.2)
 have HRT := LH (fun (v : Value) (W : World) (h : OwnB W B v (T ++ ([94] : List UInt8) ++ decN nn)) => (show OwnB W B v (l ++ kf ++ ([94] : List UInt8) ++ decN nn) from by rw [← hT]; exact h))
 clear HBA hE hv hkd hO hK hg hbk h0 hT HE
 have a9 := HAS.out _ HB0.out
 have hag := HAG.out _ HB0.out
 go_enter Tryd.func36, Tryd.ntmps36
 go_wp2_with fail
 generalize (w.alloc (.cells #[.int .i64 14, .string (str field), .string (str text), .int .i64 (nn : Int), .bool lo.open_, .bool lo.in_, .string (str lo.text), .bool hi.open_, .bool hi.in_, .string (str hi.text), .slice oa occ.length oc, .slice ka ks.length kc] 27)) = w0 at *
 have hax := HA0.out
 obtain ⟨d0, d1, d2, d3, d4, d5, d6, d7, d8, d9, d10, d11, -, -, -, -, -, -, -, -, -, -, -, -, dl⟩ := blk12 hax
 clear hax
 go_region_law (first
  | (go_simp; go_at_call 55; refine (HKD.out _ (Below.drew HB0.out) _ (OwnB.drew HO0.out)).mono ?_; rintro e w5 ⟨v5, rfl, k1, k2, k3⟩; (have k4 := Below.trans (Below.drew HB0.out) k2); (have k5 := Oth.trans HK0.out (Oth.undrew k3)); (have k6 := Nat.le_trans hB (Below.size k4)); (have k7 := HAS.out _ k4); (have k8 := HAG.out _ k4); (have k9 := Oth.blk k3 (Blk.drew HA0.out) (by decide)); (have hax := k9; have e0 := hax.cell 0; have e3 := hax.cell 3; simp only [List.getElem?_toArray, List.getElem?_cons_zero, List.getElem?_cons_succ] at e0 e3))
  | ((refine OwnB.stepStrU k1 ⟨#[94]⟩ rfl _ _ rfl rfl rfl k6 hts (fun v6 w6 h6 h7 h8 => ?_)); (have h9 := (show OwnB w6 B v6 (T ++ ([94] : List UInt8)) from h6)); (have h10 := Below.trans k4 h7); (have h11 := Oth.trans k5 (OwnB.oth k1 h8)); (have hay := (Oth.blk (OwnB.oth k1 h8) k9 (by decide)).cell 3; simp only [List.getElem?_toArray, List.getElem?_cons_zero, List.getElem?_cons_succ] at hay)))
 all_goals
  have H9 := LH h9; have H10 := LH h10; have H11 := LH h11
  clear k1 k2 k3 k4 k5 k6 k7 k8 k9 h6 h7 h8 h9 h10 h11 hax e0 e3
  go_wp2_with fail
  refine (HAI.out _ H10.out v6 H9.out).mono ?_
  rintro e w7 ⟨v7, rfl, z1, z2, z3⟩
  have HF1 := LH (HRT.out _ _ z1)
  have HF2 := LH (Below.trans H10.out z2)
  have HF3 := LH (Oth.trans H11.out z3)
  clear z1 z2 z3
  go_wp2
  go_ret
  exact ⟨v7, rfl, by simpa using HF1.out, HF2.out, HF3.out⟩
theorem form_15 (nn : Nat) (field text : List UInt8) (lo hi : Bd) (occ : List Int) (ks : List Nd) (w : World) (B : Nat) (oa ka : Option Addr) (oc kc : Nat) (v : Value) (l : List UInt8) (hE : PrEnv w B) (hv : OwnB w B v l) (hB : B ≤ w.heap.size) (hn : nn < 9223372036854775808) (hkd : KdOk 15 (nn : Int) field text lo hi occ ks) (h0 : 0 < ks.length) (hO : RdF folS w (fun b => b < B) ⟨oa, occ.length, oc⟩ occ) (hK : KidsR w (fun b => b < B) ka kc ks) (hbk : bkNs ks ≤ 300000000000) (hg : goodN (.mk 15 field text (nn : Int) lo hi occ ks) = true) (hlen : l.length + (brF (decide (levN ks[0] < barK 15 (occ.getD 0 0))) (formN ks[0])).length ≤ 100000000000000) :
  Calls Tryd.prog 36 #[v, .agg #[.int .i64 15, .string (str field), .string (str text), .int .i64 (nn : Int), .bool lo.open_, .bool lo.in_, .string (str lo.text), .bool hi.open_, .bool hi.in_, .string (str hi.text), .slice oa occ.length oc, .slice ka ks.length kc]] w (RetU w B (l ++ brF (decide (levN ks[0] < barK 15 (occ.getD 0 0))) (formN ks[0]) ++ ([94, 61] : List UInt8) ++ decN nn)) := by
 have HO0 := LH (hv.alloc (.cells #[.int .i64 15, .string (str field), .string (str text), .int .i64 (nn : Int), .bool lo.open_, .bool lo.in_, .string (str lo.text), .bool hi.open_, .bool hi.in_, .string (str hi.text), .slice oa occ.length oc, .slice ka ks.length kc] 27))
 have HBA := LH ((Below.refl w.heap.size w).alloc (Nat.le_refl _) (.cells #[.int .i64 15, .string (str field), .string (str text), .int .i64 (nn : Int), .bool lo.open_, .bool lo.in_, .string (str lo.text), .bool hi.open_, .bool hi.in_, .string (str hi.text), .slice oa occ.length oc, .slice ka ks.length kc] 27))
 have HB0 := LH (HBA.out.mono hB)
 have HK0 := LH (Oth.below HBA.out)
 have HA0 := LH (Blk.new w 27 #[.int .i64 15, .string (str field), .string (str text), .int .i64 (nn : Int), .bool lo.open_, .bool lo.in_, .string (str lo.text), .bool hi.open_, .bool hi.in_, .string (str hi.text), .slice oa occ.length oc, .slice ka ks.length kc])
 have HZ0 := LH (Nat.le_trans hB HBA.out.size)
 have HE := LH hE
 have HKD := LH (fun (W : World) (hW : Below B w W) (u : Value) (hu : OwnB W B u l) => (show Calls Tryd.prog 55 #[u, .agg #[.int .i64 15, .string (str field), .string (str text), .int .i64 (nn : Int), .bool lo.open_, .bool lo.in_, .string (str lo.text), .bool hi.open_, .bool hi.in_, .string (str hi.text), .slice oa occ.length oc, .slice ka ks.length kc], .int .i64 0] W (RetU W B (l ++ brF (decide (levN ks[0] < barK 15 (occ.getD 0 0))) (formN ks[0]))) from hkd W B oa ka oc kc u l 0 h0 (hO.belowB hW) (hK.belowB hW) hbk hg (hE.belowB hW) hu (Nat.le_trans hB hW.size) hlen))
 generalize brF (decide (levN ks[0] < barK 15 (occ.getD 0 0))) (formN ks[0]) = kf at *
 obtain ⟨T, hT⟩ : ∃ T, T = l ++ kf := ⟨_, rfl⟩
 rw [← hT] at HKD
 have hTl : T.length ≤ 100000000000000 := by rw [hT, List.length_append]; exact hlen
 have HTT := LH hT
 have HAI := LH (fun (W : World) (hW : Below B w W) (u : Value) (hu : OwnB W B u (T ++ ([94, 61] : List UInt8))) => appintU nn hn u B (T ++ ([94, 61] : List UInt8)) W (hE.belowB hW) hu (Nat.le_trans hB hW.size) (by rw [List.length_append]; simp only [List.length_cons, List.length_nil]; omega))
 have hts : T.length + (⟨#[94, 61]⟩ : ByteArray).size ≤ 140737488355328 := by rw [show (⟨#[94, 61]⟩ : ByteArray).size = 2 from rfl]; omega
 have HAS := LH (fun (W : World) (hW : Below B w W) => (show W.cell? ⟨17, 159, none⟩ = some (.string ⟨#[94, 61]⟩) from (hE.belowB hW).asks.1 159 _ rfl))
 have HAG := LH (fun (W : World) (hW : Below B w W) => (hE.belowB hW).asks.2)
 have HRT := LH (fun (v : Value) (W : World) (h : OwnB W B v (T ++ ([94, 61] : List UInt8) ++ decN nn)) => (show OwnB W B v (l ++ kf ++ ([94, 61] : List UInt8) ++ decN nn) from by rw [← hT]; exact h))
 clear HBA hE hv hkd hO hK hg hbk h0 hT HE
 have a9 := HAS.out _ HB0.out
 have hag := HAG.out _ HB0.out
 go_enter Tryd.func36, Tryd.ntmps36
 go_wp2_with fail
 generalize (w.alloc (.cells #[.int .i64 15, .string (str field), .string (str text), .int .i64 (nn : Int), .bool lo.open_, .bool lo.in_, .string (str lo.text), .bool hi.open_, .bool hi.in_, .string (str hi.text), .slice oa occ.length oc, .slice ka ks.length kc] 27)) = w0 at *
 have hax := HA0.out
 obtain ⟨d0, d1, d2, d3, d4, d5, d6, d7, d8, d9, d10, d11, -, -, -, -, -, -, -, -, -, -, -, -, dl⟩ := blk12 hax
 clear hax
 go_region_law (first
  | (go_simp; go_at_call 55; refine (HKD.out _ (Below.drew HB0.out) _ (OwnB.drew HO0.out)).mono ?_; rintro e w5 ⟨v5, rfl, k1, k2, k3⟩; (have k4 := Below.trans (Below.drew HB0.out) k2); (have k5 := Oth.trans HK0.out (Oth.undrew k3)); (have k6 := Nat.le_trans hB (Below.size k4)); (have k7 := HAS.out _ k4); (have k8 := HAG.out _ k4); (have k9 := Oth.blk k3 (Blk.drew HA0.out) (by decide)); (have hax := k9; have e0 := hax.cell 0; have e3 := hax.cell 3; simp only [List.getElem?_toArray, List.getElem?_cons_zero, List.getElem?_cons_succ] at e0 e3))
  | ((refine OwnB.stepStrU k1 ⟨#[94, 61]⟩ rfl _ _ rfl rfl rfl k6 hts (fun v6 w6 h6 h7 h8 => ?_)); (have h9 := (show OwnB w6 B v6 (T ++ ([94, 61] : List UInt8)) from h6)); (have h10 := Below.trans k4 h7); (have h11 := Oth.trans k5 (OwnB.oth k1 h8)); (have hay := (Oth.blk (OwnB.oth k1 h8) k9 (by decide)).cell 3; simp only [List.getElem?_toArray, List.getElem?_cons_zero, List.getElem?_cons_succ] at hay)))
 all_goals
  have H9 := LH h9; have H10 := LH h10; have H11 := LH h11
  clear k1 k2 k3 k4 k5 k6 k7 k8 k9 h6 h7 h8 h9 h10 h11 hax e0 e3
  go_wp2_with fail
  refine (HAI.out _ H10.out v6 H9.out).mono ?_
  rintro e w7 ⟨v7, rfl, z1, z2, z3⟩
  have HF1 := LH (HRT.out _ _ z1)
  have HF2 := LH (Below.trans H10.out z2)
  have HF3 := LH (Oth.trans H11.out z3)
  clear z1 z2 z3
  go_wp2
  go_ret
  exact ⟨v7, rfl, by simpa using HF1.out, HF2.out, HF3.out⟩
end Go.Proofs.YthcldpminmhgkaaDoor
end
