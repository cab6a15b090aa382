/- Merged for a claim by shake.py: Jad -/
import Derived.Test.YthcldpminmhgkaaDoorKrA
import Derived.Lib.AppendStr
import Derived.Lib.BufferKept
import Derived.Lib.OwnKind
import Derived.Test.YthcldpminmhgkaaDoorKr24
import Derived.Test.YthcldpminmhgkaaDoorKr26
set_option maxRecDepth 100000
set_option maxHeartbeats 4000000
set_option linter.unusedSimpArgs false
set_option linter.unusedVariables false
section
namespace Go.Proofs.YthcldpminmhgkaaDoor
open Go.RowKit
def Oth (w w' : World) : Prop := Lib.OthersKept 5 none w w'
theorem Oth.refl (w : World) : Oth w w := Lib.OthersKept.refl _ _ w
theorem Oth.trans {a b c : World} (h : Oth a b) (k : Oth b c) : Oth a c := Lib.OthersKept.trans h k
theorem Oth.below {w w' : World} (hb : Below w.heap.size w w') : Oth w w' := (Lib.OthersKept.refl _ _ w).below hb
theorem Oth.blk {w w' : World} {g : Nat} {t : TypeId} {cs : Array Value} (h : Oth w w') (hb : Blk w g t cs) (hne : t ≠ 5) : Blk w' g t cs := by
 unfold Blk at *
 exact h g _ hb (by simp) (fun c fz e => by injection e with _ e2; exact hne e2)
theorem OwnB.oth {w w' : World} {B : Nat} {v : Value} {l : List UInt8} (h : OwnB w B v l) (hk : KeptBut w w' v) : Oth w w' := by
 intro k o hk1 _ ho
 have hlt : k < w.heap.size := (Array.getElem?_eq_some_iff.1 hk1).1
 rw [hk k hlt (fun e => by obtain ⟨c, fz, hc⟩ := Lib.ownsRow_kind h k e; rw [hk1] at hc; exact ho c fz (Option.some.inj hc))]
 exact hk1
structure PrEnv (w : World) (B : Nat) : Prop where
 asks : AskEnv w
 cls : ClsEnv w
 pow : P10 w
 h1 : 17 < B
 h2 : 25 < B
 h3 : 26 < B
theorem AskEnv.belowB {w w' : World} {B : Nat} (h : AskEnv w) (hB : 17 < B) (hb : Below B w w') : AskEnv w' :=
 ⟨fun j v hv => (hb.cell (p := ⟨17, j, none⟩) hB).trans (h.1 j v hv), Nat.lt_of_lt_of_le h.2 hb.size⟩
theorem PrEnv.belowB {w w' : World} {B : Nat} (h : PrEnv w B) (hb : Below B w w') : PrEnv w' B :=
 ⟨h.asks.belowB h.h1 hb, h.cls.belowB h.h2 hb, h.pow.belowB h.h3 hb, h.h1, h.h2, h.h3⟩
theorem NdR.belowB {w w' : World} {B : Nat} {x : NV} {t : Nd} (h : NdR w (fun b => b < B) x t) (hb : Below B w w') : NdR w' (fun b => b < B) x t := h.keep fun p hp _ => hb.cell hp
def RetU (w : World) (B : Nat) (l : List UInt8) (e : Ending) (w' : World) : Prop := ∃ v, e = .returned v ∧ OwnB w' B v l ∧ Below B w w' ∧ Oth w w'
def FmOk (t : Nd) : Prop := ∀ (w : World) (B : Nat) (x : NV) (v : Value) (l : List UInt8), NdR w (fun b => b < B) x t → bkN t ≤ 300000000000 → goodN t = true → PrEnv w B → OwnB w B v l → B ≤ w.heap.size → l.length + (formN t).length ≤ 100000000000000 → Calls Tryd.prog 36 #[v, x.val] w (RetU w B (l ++ formN t))
def KdOk (kind n : Int) (field text : List UInt8) (lo hi : Bd) (occ : List Int) (ks : List Nd) : Prop := ∀ (w : World) (B : Nat) (oa ka : Option Addr) (oc kc : Nat) (v : Value) (l : List UInt8) (i : Nat) (hi_ : i < ks.length), RdF folS w (fun b => b < B) ⟨oa, occ.length, oc⟩ occ → KidsR w (fun b => b < B) ka kc ks → bkNs ks ≤ 300000000000 → goodN (.mk kind field text n lo hi occ ks) = true → PrEnv w B → OwnB w B v l → B ≤ w.heap.size → l.length + (brF (decide (levN ks[i] < barK kind (occ.getD i 0))) (formN ks[i])).length ≤ 100000000000000 →
 Calls Tryd.prog 55 #[v, .agg #[.int .i64 kind, .string (str field), .string (str text), .int .i64 n, .bool lo.open_, .bool lo.in_, .string (str lo.text), .bool hi.open_, .bool hi.in_, .string (str hi.text), .slice oa occ.length oc, .slice ka ks.length kc], .int .i64 (i : Int)] w (RetU w B (l ++ brF (decide (levN ks[i] < barK kind (occ.getD i 0))) (formN ks[i])))
theorem kid_of (kind n : Int) (field text : List UInt8) (lo hi : Bd) (occ : List Int) (ks : List Nd) (ih : ∀ t ∈ ks, FmOk t) : KdOk kind n field text lo hi occ ks := by
 intro w B oa ka oc kc v l i hi_ hO hK hbk hg hE hv hB hlen
 have hkl : ks.length ≤ 9223372036854775807 := by have h := Nat.le_trans hK.len.1 hK.len.2; unfold maxLen at h; omega
 have hgd := hg
 rw [goodN, Bool.and_eq_true] at hgd
 have hoc : 9 ≤ kind ∧ kind ≤ 15 ∧ (kind = 9 → occ.length = ks.length) := by
  rcases own_cases hgd.1 with ⟨_, _, h0, _⟩ | ⟨h9, h15, _, _, _, _, _, _, _, h, _⟩
  ·omega
  ·exact ⟨h9, h15, fun e => (h e).1⟩
 have hgk := (goodNs_all _).1 hgd.2 _ (List.getElem_mem hi_)
 have hbk2 : bkN ks[i] ≤ 300000000000 := Nat.le_trans (bkNs_mem (List.getElem_mem hi_)) hbk
 have hih := ih _ (List.getElem_mem hi_)
 obtain ⟨a, y, rfl, ⟨hab, q0, q1, q2, q3, q4, q5, q6, q7, q8, q9, q10, q11⟩, hy⟩ := hK.kid hi_
 generalize ks[i] = t at *
 have hkk := hy.kinds hgk
 have HLV := LH hy.lev
 have HY := LH hy
 obtain ⟨kd3, fl3, tx3, xn3, ⟨la3, lb3, lc3⟩, ⟨ra3, rb3, rc3⟩, ⟨oa3, on3, oc3⟩, ⟨ka3, kn3, kc3⟩⟩ := y
 simp only [] at q0 q1 q2 q3 q4 q5 q6 q7 q8 q9 q10 q11
 simp only [] at hkk HLV
 have HA := LH (Blk.new w 27 #[.int .i64 kind, .string (str field), .string (str text), .int .i64 n, .bool lo.open_, .bool lo.in_, .string (str lo.text), .bool hi.open_, .bool hi.in_, .string (str hi.text), .slice oa occ.length oc, .slice (some a) ks.length kc])
 have HBA := LH ((Below.refl w.heap.size w).alloc (Nat.le_refl _) (.cells #[.int .i64 kind, .string (str field), .string (str text), .int .i64 n, .bool lo.open_, .bool lo.in_, .string (str lo.text), .bool hi.open_, .bool hi.in_, .string (str hi.text), .slice oa occ.length oc, .slice (some a) ks.length kc] 27))
 have HBC := LH ((Below.refl (w.alloc (.cells #[.int .i64 kind, .string (str field), .string (str text), .int .i64 n, .bool lo.open_, .bool lo.in_, .string (str lo.text), .bool hi.open_, .bool hi.in_, .string (str hi.text), .slice oa occ.length oc, .slice (some a) ks.length kc] 27)).heap.size (w.alloc (.cells #[.int .i64 kind, .string (str field), .string (str text), .int .i64 n, .bool lo.open_, .bool lo.in_, .string (str lo.text), .bool hi.open_, .bool hi.in_, .string (str hi.text), .slice oa occ.length oc, .slice (some a) ks.length kc] 27))).alloc (Nat.le_refl _) (.cells #[.int .i64 kd3, .string (str fl3), .string (str tx3), .int .i64 xn3, .bool la3, .bool lb3, .string (str lc3), .bool ra3, .bool rb3, .string (str rc3), .slice oa3 on3 oc3, .slice ka3 kn3 kc3] 27))
 have HC := LH (Blk.new (w.alloc (.cells #[.int .i64 kind, .string (str field), .string (str text), .int .i64 n, .bool lo.open_, .bool lo.in_, .string (str lo.text), .bool hi.open_, .bool hi.in_, .string (str hi.text), .slice oa occ.length oc, .slice (some a) ks.length kc] 27)) 27 #[.int .i64 kd3, .string (str fl3), .string (str tx3), .int .i64 xn3, .bool la3, .bool lb3, .string (str lc3), .bool ra3, .bool rb3, .string (str rc3), .slice oa3 on3 oc3, .slice ka3 kn3 kc3])
 have HB1 := LH (HBA.out.trans (HBC.out.mono HBA.out.size))
 have HA1 := LH (HA.out.belowW HBC.out)
 have HSZ := LH (show (w.alloc (.cells #[.int .i64 kind, .string (str field), .string (str text), .int .i64 n, .bool lo.open_, .bool lo.in_, .string (str lo.text), .bool hi.open_, .bool hi.in_, .string (str hi.text), .slice oa occ.length oc, .slice (some a) ks.length kc] 27)).heap.size = w.heap.size + 1 from World.size_alloc ..)
 have HIH := LH (fun (W : World) (hW : Below B w W) (u : Value) (m : List UInt8) (hm : m.length + (formN t).length ≤ 100000000000000) (hu : OwnB W B u m) => hih W B _ u m (HY.out.belowB hW) hbk2 hgk (hE.belowB hW) hu (Nat.le_trans hB hW.size) hm)
 unfold NV.val at HIH
 simp only [] at HIH
 have HV := LH hv; have HE := LH hE; have HO := LH hO
 have hBB := hB
 clear hv hE hO hih hy hg hgd hK ih
 go_enter Tryd.func55, Tryd.ntmps55
 go_wp2_with fail
 have HC1 := LH (show Blk ((w.alloc (.cells #[.int .i64 kind, .string (str field), .string (str text), .int .i64 n, .bool lo.open_, .bool lo.in_, .string (str lo.text), .bool hi.open_, .bool hi.in_, .string (str hi.text), .slice oa occ.length oc, .slice (some a) ks.length kc] 27)).alloc (.cells #[.int .i64 kd3, .string (str fl3), .string (str tx3), .int .i64 xn3, .bool la3, .bool lb3, .string (str lc3), .bool ra3, .bool rb3, .string (str rc3), .slice oa3 on3 oc3, .slice ka3 kn3 kc3] 27)) (w.heap.size + 1) 27 #[.int .i64 kd3, .string (str fl3), .string (str tx3), .int .i64 xn3, .bool la3, .bool lb3, .string (str lc3), .bool ra3, .bool rb3, .string (str rc3), .slice oa3 on3 oc3, .slice ka3 kn3 kc3] from by have h := HC.out; rw [World.size_alloc] at h; exact h)
 clear HC HBC HBA HA HSZ
 generalize ((w.alloc (.cells #[.int .i64 kind, .string (str field), .string (str text), .int .i64 n, .bool lo.open_, .bool lo.in_, .string (str lo.text), .bool hi.open_, .bool hi.in_, .string (str hi.text), .slice oa occ.length oc, .slice (some a) ks.length kc] 27)).alloc (.cells #[.int .i64 kd3, .string (str fl3), .string (str tx3), .int .i64 xn3, .bool la3, .bool lb3, .string (str lc3), .bool ra3, .bool rb3, .string (str rc3), .slice oa3 on3 oc3, .slice ka3 kn3 kc3] 27)) = w1 at *
 have HVV := LH (HV.out.below HB1.out)
 have HBB := LH (HB1.out.mono hBB)
 have HZ1 := LH HB1.out.size
 have hnk := HA1.out
 have hkb := HC1.out
 have n0 := hnk.cell 0; have n1 := hnk.cell 1; have n2 := hnk.cell 2; have n3 := hnk.cell 3; have n4 := hnk.cell 4; have n5 := hnk.cell 5; have n6 := hnk.cell 6; have n7 := hnk.cell 7; have n8 := hnk.cell 8; have n9 := hnk.cell 9; have n10 := hnk.cell 10; have n11 := hnk.cell 11; have ln := hnk.lt
 have k0 := hkb.cell 0; have k1 := hkb.cell 1; have k2 := hkb.cell 2; have k3 := hkb.cell 3; have k4 := hkb.cell 4; have k5 := hkb.cell 5; have k6 := hkb.cell 6; have k7 := hkb.cell 7; have k8 := hkb.cell 8; have k9 := hkb.cell 9; have k10 := hkb.cell 10; have k11 := hkb.cell 11; have lk := hkb.lt
 simp only [List.getElem?_toArray, List.getElem?_cons_zero, List.getElem?_cons_succ] at n0 n1 n2 n3 n4 n5 n6 n7 n8 n9 n10 n11 k0 k1 k2 k3 k4 k5 k6 k7 k8 k9 k10 k11
 have HSF := LH (fun (W : World) (hW : Below w1.heap.size w1 W) => (show W.cell? ⟨w.heap.size, 0, none⟩ = some (.int .i64 kind) ∧ W.cell? ⟨w.heap.size, 1, none⟩ = some (.string (str field)) ∧ W.cell? ⟨w.heap.size, 2, none⟩ = some (.string (str text)) ∧ W.cell? ⟨w.heap.size, 3, none⟩ = some (.int .i64 n) ∧ W.cell? ⟨w.heap.size, 4, none⟩ = some (.bool lo.open_) ∧ W.cell? ⟨w.heap.size, 5, none⟩ = some (.bool lo.in_) ∧ W.cell? ⟨w.heap.size, 6, none⟩ = some (.string (str lo.text)) ∧ W.cell? ⟨w.heap.size, 7, none⟩ = some (.bool hi.open_) ∧ W.cell? ⟨w.heap.size, 8, none⟩ = some (.bool hi.in_) ∧ W.cell? ⟨w.heap.size, 9, none⟩ = some (.string (str hi.text)) ∧ W.cell? ⟨w.heap.size, 10, none⟩ = some (.slice oa occ.length oc) ∧ W.cell? ⟨w.heap.size, 11, none⟩ = some (.slice (some a) ks.length kc) ∧ W.cell? ⟨w.heap.size + 1, 0, none⟩ = some (.int .i64 kd3) ∧ W.cell? ⟨w.heap.size + 1, 1, none⟩ = some (.string (str fl3)) ∧ W.cell? ⟨w.heap.size + 1, 2, none⟩ = some (.string (str tx3)) ∧ W.cell? ⟨w.heap.size + 1, 3, none⟩ = some (.int .i64 xn3) ∧ W.cell? ⟨w.heap.size + 1, 4, none⟩ = some (.bool la3) ∧ W.cell? ⟨w.heap.size + 1, 5, none⟩ = some (.bool lb3) ∧ W.cell? ⟨w.heap.size + 1, 6, none⟩ = some (.string (str lc3)) ∧ W.cell? ⟨w.heap.size + 1, 7, none⟩ = some (.bool ra3) ∧ W.cell? ⟨w.heap.size + 1, 8, none⟩ = some (.bool rb3) ∧ W.cell? ⟨w.heap.size + 1, 9, none⟩ = some (.string (str rc3)) ∧ W.cell? ⟨w.heap.size + 1, 10, none⟩ = some (.slice oa3 on3 oc3) ∧ W.cell? ⟨w.heap.size + 1, 11, none⟩ = some (.slice ka3 kn3 kc3) ∧ Below w1.heap.size w1 W from by
  refine ⟨(hW.cell (p := ⟨w.heap.size, 0, none⟩) ln).trans n0, (hW.cell (p := ⟨w.heap.size, 1, none⟩) ln).trans n1, (hW.cell (p := ⟨w.heap.size, 2, none⟩) ln).trans n2, (hW.cell (p := ⟨w.heap.size, 3, none⟩) ln).trans n3, (hW.cell (p := ⟨w.heap.size, 4, none⟩) ln).trans n4, (hW.cell (p := ⟨w.heap.size, 5, none⟩) ln).trans n5, (hW.cell (p := ⟨w.heap.size, 6, none⟩) ln).trans n6, (hW.cell (p := ⟨w.heap.size, 7, none⟩) ln).trans n7, (hW.cell (p := ⟨w.heap.size, 8, none⟩) ln).trans n8, (hW.cell (p := ⟨w.heap.size, 9, none⟩) ln).trans n9, (hW.cell (p := ⟨w.heap.size, 10, none⟩) ln).trans n10, (hW.cell (p := ⟨w.heap.size, 11, none⟩) ln).trans n11, (hW.cell (p := ⟨w.heap.size + 1, 0, none⟩) lk).trans k0, (hW.cell (p := ⟨w.heap.size + 1, 1, none⟩) lk).trans k1, (hW.cell (p := ⟨w.heap.size + 1, 2, none⟩) lk).trans k2, (hW.cell (p := ⟨w.heap.size + 1, 3, none⟩) lk).trans k3, (hW.cell (p := ⟨w.heap.size + 1, 4, none⟩) lk).trans k4, (hW.cell (p := ⟨w.heap.size + 1, 5, none⟩) lk).trans k5, (hW.cell (p := ⟨w.heap.size + 1, 6, none⟩) lk).trans k6, (hW.cell (p := ⟨w.heap.size + 1, 7, none⟩) lk).trans k7, (hW.cell (p := ⟨w.heap.size + 1, 8, none⟩) lk).trans k8, (hW.cell (p := ⟨w.heap.size + 1, 9, none⟩) lk).trans k9, (hW.cell (p := ⟨w.heap.size + 1, 10, none⟩) lk).trans k10, (hW.cell (p := ⟨w.heap.size + 1, 11, none⟩) lk).trans k11, hW⟩))
 have HCL := LH (fun (W : World) (hW : Below w1.heap.size w1 W) => (lvl_any hkk.1 hkk.2.1 xn3 fl3 tx3 ⟨la3, lb3, lc3⟩ ⟨ra3, rb3, rc3⟩ oa3 ka3 on3 oc3 kn3 kc3 W (HE.out.belowB (HBB.out.trans (hW.mono (Nat.le_trans hBB HZ1.out)))).asks).mono (fun e w' h => (show e = .returned (.int .i64 (levK kd3 xn3 : Int)) ∧ Below w1.heap.size w1 w' from ⟨h.1, by rw [← h.2]; exact hW.alloc hW.size _⟩)))
 have HCB := LH (fun (W : World) (hW : Below w1.heap.size w1 W) => (pbar_any hoc.1 hoc.2.1 n field text lo hi occ oa (some a) oc ks.length kc i W _ (HE.out.belowB (HBB.out.trans (hW.mono (Nat.le_trans hBB HZ1.out)))).asks (HO.out.belowW (HB1.out.trans (hW.mono HZ1.out))) (fun e => by rw [hoc.2.2 e]; exact hi_)).mono (fun e w' h => (show e = .returned (.int .i64 (barK kind (occ.getD i 0) : Int)) ∧ Below w1.heap.size w1 w' from ⟨h.1, by rw [← h.2]; exact hW.alloc hW.size _⟩)))
 simp only [] at HCL
 have HLV2 := LH (show levN t = levK kd3 xn3 from HLV.out)
 clear HLV
 generalize levK kd3 xn3 = lv at *
 generalize barK kind (occ.getD i 0) = br at *
 generalize hfm : formN t = fm at *
 clear hfm n0 n1 n2 n3 n4 n5 n6 n7 n8 n9 n10 n11 k0 k1 k2 k3 k4 k5 k6 k7 k8 k9 k10 k11 hnk hkb hoc hkk
 by_cases hlb : lv < br
 ·have hl2 : decide ((br : Int) ≤ (lv : Int)) = false := decide_eq_false (by omega)
  have hl3 : ¬ (br : Int) ≤ (lv : Int) := by omega
  have HR := LH (show brF (decide (levN t < br)) fm = 40 :: (fm ++ [41]) from by unfold brF; rw [HLV2.out]; rw [decide_eq_true hlb, if_pos rfl])
  rw [HR.out] at hlen
  simp only [List.length_cons, List.length_append, List.length_nil] at hlen
  clear hlb
  go_region_held3 (fun W => W.cell? ⟨w.heap.size, 0, none⟩ = some (.int .i64 kind) ∧ W.cell? ⟨w.heap.size, 1, none⟩ = some (.string (str field)) ∧ W.cell? ⟨w.heap.size, 2, none⟩ = some (.string (str text)) ∧ W.cell? ⟨w.heap.size, 3, none⟩ = some (.int .i64 n) ∧ W.cell? ⟨w.heap.size, 4, none⟩ = some (.bool lo.open_) ∧ W.cell? ⟨w.heap.size, 5, none⟩ = some (.bool lo.in_) ∧ W.cell? ⟨w.heap.size, 6, none⟩ = some (.string (str lo.text)) ∧ W.cell? ⟨w.heap.size, 7, none⟩ = some (.bool hi.open_) ∧ W.cell? ⟨w.heap.size, 8, none⟩ = some (.bool hi.in_) ∧ W.cell? ⟨w.heap.size, 9, none⟩ = some (.string (str hi.text)) ∧ W.cell? ⟨w.heap.size, 10, none⟩ = some (.slice oa occ.length oc) ∧ W.cell? ⟨w.heap.size, 11, none⟩ = some (.slice (some a) ks.length kc) ∧ W.cell? ⟨w.heap.size + 1, 0, none⟩ = some (.int .i64 kd3) ∧ W.cell? ⟨w.heap.size + 1, 1, none⟩ = some (.string (str fl3)) ∧ W.cell? ⟨w.heap.size + 1, 2, none⟩ = some (.string (str tx3)) ∧ W.cell? ⟨w.heap.size + 1, 3, none⟩ = some (.int .i64 xn3) ∧ W.cell? ⟨w.heap.size + 1, 4, none⟩ = some (.bool la3) ∧ W.cell? ⟨w.heap.size + 1, 5, none⟩ = some (.bool lb3) ∧ W.cell? ⟨w.heap.size + 1, 6, none⟩ = some (.string (str lc3)) ∧ W.cell? ⟨w.heap.size + 1, 7, none⟩ = some (.bool ra3) ∧ W.cell? ⟨w.heap.size + 1, 8, none⟩ = some (.bool rb3) ∧ W.cell? ⟨w.heap.size + 1, 9, none⟩ = some (.string (str rc3)) ∧ W.cell? ⟨w.heap.size + 1, 10, none⟩ = some (.slice oa3 on3 oc3) ∧ W.cell? ⟨w.heap.size + 1, 11, none⟩ = some (.slice ka3 kn3 kc3) ∧ Below w1.heap.size w1 W) (exact HSF.out _ (by repeat (first | assumption | exact Below.refl _ _ | with_reducible refine Below.drew ?_))) (first | ((with_reducible refine (HCL.out _ ?_).mono ?_); (repeat (first | assumption | exact Below.refl _ _ | with_reducible refine Below.drew ?_)); (rintro e w5 ⟨rfl, hk1⟩)) | ((with_reducible refine (HCB.out _ ?_).mono ?_); (repeat (first | assumption | exact Below.refl _ _ | with_reducible refine Below.drew ?_)); (rintro e w5 ⟨rfl, hk2⟩)))
  rename_i hfin
  have HBF := LH (show Below w1.heap.size w1 _ from hfin.2.2.2.2.2.2.2.2.2.2.2.2.2.2.2.2.2.2.2.2.2.2.2.2)
  have HOF := LH (HVV.out.below HBF.out)
  have HBW := LH (HBB.out.trans (HBF.out.mono (Nat.le_trans hBB HZ1.out)))
  have HOT := LH (Oth.below (HB1.out.trans (HBF.out.mono HZ1.out)))
  have HCF := LH (HC1.out.belowW HBF.out)
  have HZF := LH (Nat.le_trans hBB (Nat.le_trans HZ1.out HBF.out.size))
  clear hfin HBF
  go_wp2_with (at_builtin; refine OwnB.appendAt HOF.out _ _ rfl _ _ rfl rfl rfl ?_ ?_ ?_ HZF.out ?_ ?_)
  all_goals first | omega | exact (World.size_alloc ..).symm | skip
  intro v2 w2 h2 h3 h3k
  have HO2 := LH (show OwnB w2 B v2 (l ++ [40]) from h2)
  have HB2 := LH (HBW.out.trans h3)
  have HK2 := LH (HOT.out.trans (HOF.out.oth h3k))
  have hc2 := ((HOF.out.oth h3k).blk HCF.out (by decide))
  obtain ⟨d0, d1, d2, d3, d4, d5, d6, d7, d8, d9, d10, d11, -⟩ := blk12 hc2
  clear h2 h3 h3k hc2 HCF HOF
  go_wp2_with fail
  refine (HIH.out _ HB2.out v2 (l ++ [40]) (by rw [List.length_append, List.length_singleton]; omega) HO2.out).mono ?_
  rintro e w4 ⟨v4, rfl, ho4, hb4, hk4⟩
  have HO4 := LH ho4; have HB4 := LH (HB2.out.trans hb4); have HK4 := LH (HK2.out.trans hk4)
  have HZ4 := LH (Nat.le_trans hBB HB4.out.size)
  clear ho4 hb4 hk4
  go_wp2_with (at_builtin; refine OwnB.appendAt HO4.out _ _ rfl _ _ rfl rfl rfl ?_ ?_ ?_ HZ4.out ?_ ?_)
  all_goals first | omega | exact (World.size_alloc ..).symm | (rw [List.length_append, List.length_append, List.length_singleton]; omega) | skip
  intro v6 w6 h6 h7 h7k
  have HO6 := LH (show OwnB w6 B v6 (l ++ 40 :: (fm ++ [41])) from by simpa using h6)
  have HB6 := LH (HB4.out.trans h7)
  have HK6 := LH (HK4.out.trans (HO4.out.oth h7k))
  clear h6 h7 h7k
  go_wp2
  go_ret
  exact ⟨v6, rfl, by rw [HR.out]; exact HO6.out, HB6.out, HK6.out⟩
 ·have hl2 : decide ((br : Int) ≤ (lv : Int)) = true := decide_eq_true (by omega)
  have hl3 : (br : Int) ≤ (lv : Int) := by omega
  have HR := LH (show brF (decide (levN t < br)) fm = fm from by unfold brF; rw [HLV2.out]; rw [decide_eq_false hlb, if_neg (by simp)])
  rw [HR.out] at hlen
  clear hlb
  go_region_held3 (fun W => W.cell? ⟨w.heap.size, 0, none⟩ = some (.int .i64 kind) ∧ W.cell? ⟨w.heap.size, 1, none⟩ = some (.string (str field)) ∧ W.cell? ⟨w.heap.size, 2, none⟩ = some (.string (str text)) ∧ W.cell? ⟨w.heap.size, 3, none⟩ = some (.int .i64 n) ∧ W.cell? ⟨w.heap.size, 4, none⟩ = some (.bool lo.open_) ∧ W.cell? ⟨w.heap.size, 5, none⟩ = some (.bool lo.in_) ∧ W.cell? ⟨w.heap.size, 6, none⟩ = some (.string (str lo.text)) ∧ W.cell? ⟨w.heap.size, 7, none⟩ = some (.bool hi.open_) ∧ W.cell? ⟨w.heap.size, 8, none⟩ = some (.bool hi.in_) ∧ W.cell? ⟨w.heap.size, 9, none⟩ = some (.string (str hi.text)) ∧ W.cell? ⟨w.heap.size, 10, none⟩ = some (.slice oa occ.length oc) ∧ W.cell? ⟨w.heap.size, 11, none⟩ = some (.slice (some a) ks.length kc) ∧ W.cell? ⟨w.heap.size + 1, 0, none⟩ = some (.int .i64 kd3) ∧ W.cell? ⟨w.heap.size + 1, 1, none⟩ = some (.string (str fl3)) ∧ W.cell? ⟨w.heap.size + 1, 2, none⟩ = some (.string (str tx3)) ∧ W.cell? ⟨w.heap.size + 1, 3, none⟩ = some (.int .i64 xn3) ∧ W.cell? ⟨w.heap.size + 1, 4, none⟩ = some (.bool la3) ∧ W.cell? ⟨w.heap.size + 1, 5, none⟩ = some (.bool lb3) ∧ W.cell? ⟨w.heap.size + 1, 6, none⟩ = some (.string (str lc3)) ∧ W.cell? ⟨w.heap.size + 1, 7, none⟩ = some (.bool ra3) ∧ W.cell? ⟨w.heap.size + 1, 8, none⟩ = some (.bool rb3) ∧ W.cell? ⟨w.heap.size + 1, 9, none⟩ = some (.string (str rc3)) ∧ W.cell? ⟨w.heap.size + 1, 10, none⟩ = some (.slice oa3 on3 oc3) ∧ W.cell? ⟨w.heap.size + 1, 11, none⟩ = some (.slice ka3 kn3 kc3) ∧ Below w1.heap.size w1 W) (exact HSF.out _ (by repeat (first | assumption | exact Below.refl _ _ | with_reducible refine Below.drew ?_))) (first | ((with_reducible refine (HCL.out _ ?_).mono ?_); (repeat (first | assumption | exact Below.refl _ _ | with_reducible refine Below.drew ?_)); (rintro e w5 ⟨rfl, hk1⟩)) | ((with_reducible refine (HCB.out _ ?_).mono ?_); (repeat (first | assumption | exact Below.refl _ _ | with_reducible refine Below.drew ?_)); (rintro e w5 ⟨rfl, hk2⟩)))
  rename_i hfin
  have HBF := LH (show Below w1.heap.size w1 _ from hfin.2.2.2.2.2.2.2.2.2.2.2.2.2.2.2.2.2.2.2.2.2.2.2.2)
  have HOF := LH (HVV.out.below HBF.out)
  have HBW := LH (HBB.out.trans (HBF.out.mono (Nat.le_trans hBB HZ1.out)))
  have HOT := LH (Oth.below (HB1.out.trans (HBF.out.mono HZ1.out)))
  obtain ⟨-, -, -, -, -, -, -, -, -, -, -, -, d0, d1, d2, d3, d4, d5, d6, d7, d8, d9, d10, d11, -⟩ := hfin
  go_wp2_with fail
  refine (HIH.out _ HBW.out v l (by omega) HOF.out).mono ?_
  rintro e w4 ⟨v4, rfl, ho4, hb4, hk4⟩
  have HO4 := LH ho4; have HB4 := LH (HBW.out.trans hb4); have HK4 := LH (HOT.out.trans hk4)
  clear ho4 hb4 hk4
  go_wp2
  go_ret
  exact ⟨v4, rfl, by rw [HR.out]; exact HO4.out, HB4.out, HK4.out⟩
end Go.Proofs.YthcldpminmhgkaaDoor
end
