/- Merged for a claim by shake.py: Za -/
import Derived.Test.YtcomdkejpaoneaaDoorKfA
import Derived.Test.YtcomdkejpaoneaaDoorKf1
import Derived.Test.YtcomdkejpaoneaaDoorKf28
section
namespace Go.Proofs.YtcomdkejpaoneaaDoor
open Go.RowKit
set_option maxRecDepth 100000
set_option maxHeartbeats 8000000
set_option linter.unusedSimpArgs false
set_option linter.unusedVariables false
theorem bd_in (a b : Bool) (t : ByteArray) (W : World) : (Op.equalIn 10000 32 (.agg #[.bool a, .bool b, .string t]) (.agg #[.bool a, .bool b, .string t])).run Tryd.prog W = .ok true W := by
 rw [run_equalIn_agg W 9999 32 _ _ (show Tryd.prog.underlying 32 = some (.struct (Tryd.prog.fieldsOf 32)) from by kernel_rfl) (by kernel_rfl)]
 simp only [Program.fieldsOf, Tryd.underlying32]
 simp [Op.eqFields, go_sem, Tryd.underlying4, Tryd.underlying9]
theorem bd_ne (a b : Bool) (t : ByteArray) (W : World) : (binOp .neq 32 (.agg #[.bool a, .bool b, .string t]) (.agg #[.bool a, .bool b, .string t])).run Tryd.prog W = .ok (.bool false) W := by
 have h := bd_in a b t W
 rw [run_neq_struct, h]; rfl
theorem bd_guard (a b : Bool) (t : ByteArray) (op : BinOp) (x y : Operand) (W : World) : (eqGuard op 32 x y (.agg #[.bool a, .bool b, .string t]) (.agg #[.bool a, .bool b, .string t])).run Tryd.prog W = .ok () W :=
 run_eqGuard_agg W op 32 x y _ _ (by kernel_rfl)
theorem RdF.inW {α : Type} {S : Shape α} {w : World} {F : Nat → Prop} {s : Sl} {l : List α} (h : RdF S w F s l) (hS : S.Ok) : RdF S w (fun b => b < w.heap.size) s l := by
 obtain ⟨h1, h2, h3, h4, h5⟩ := h
 refine ⟨h1, h2, h3, fun hn => ?_, h5⟩
 obtain ⟨a, e, hb, hc⟩ := h4 hn
 refine ⟨a, e, ?_, hc⟩
 have hl : 0 < (S.cells l).length := by rw [Shape.cells_length hS]; exact Nat.mul_pos hn hS.pos
 have h6 := hc 0 _ (List.getElem?_eq_getElem hl)
 have := World.block_lt_of_cell? w _ h6
 rw [block_of_add] at this; exact this
theorem at_ndk {w : World} {F : Nat → Prop} {A : Option Addr} {n c : Nat} {l : List NV} (h : RdF ndS w F ⟨A, n, c⟩ l) {k : Nat} (hk : k < l.length) : ∃ a, A = some a ∧ (a.add (k * 12)).block < w.heap.size
  ∧ w.cell? (a.add (k * 12)) = some (.int .i64 l[k].kind)
  ∧ w.cell? ⟨(a.add (k * 12)).block, (a.add (k * 12)).off + 1, none⟩ = some (.string (str l[k].field))
  ∧ w.cell? ⟨(a.add (k * 12)).block, (a.add (k * 12)).off + 2, none⟩ = some (.string (str l[k].text))
  ∧ w.cell? ⟨(a.add (k * 12)).block, (a.add (k * 12)).off + 3, none⟩ = some (.int .i64 l[k].n)
  ∧ w.cell? ⟨(a.add (k * 12)).block, (a.add (k * 12)).off + 4, none⟩ = some (.bool l[k].lo.open_)
  ∧ w.cell? ⟨(a.add (k * 12)).block, (a.add (k * 12)).off + 5, none⟩ = some (.bool l[k].lo.in_)
  ∧ w.cell? ⟨(a.add (k * 12)).block, (a.add (k * 12)).off + 6, none⟩ = some (.string (str l[k].lo.text))
  ∧ w.cell? ⟨(a.add (k * 12)).block, (a.add (k * 12)).off + 7, none⟩ = some (.bool l[k].hi.open_)
  ∧ w.cell? ⟨(a.add (k * 12)).block, (a.add (k * 12)).off + 8, none⟩ = some (.bool l[k].hi.in_)
  ∧ w.cell? ⟨(a.add (k * 12)).block, (a.add (k * 12)).off + 9, none⟩ = some (.string (str l[k].hi.text))
  ∧ w.cell? ⟨(a.add (k * 12)).block, (a.add (k * 12)).off + 10, none⟩ = some (.slice l[k].occ.a l[k].occ.n l[k].occ.c)
  ∧ w.cell? ⟨(a.add (k * 12)).block, (a.add (k * 12)).off + 11, none⟩ = some (.slice l[k].kids.a l[k].kids.n l[k].kids.c) := by
 obtain ⟨a, e, hb, h0, hj⟩ := (((h.inW ndOk).rd (fun _ h => h)).at2 ndOk hk)
 refine ⟨a, e, hb, h0 _ rfl, hj 0 _ (by decide) rfl, hj 1 _ (by decide) rfl, hj 2 _ (by decide) rfl, hj 3 _ (by decide) rfl, hj 4 _ (by decide) rfl, hj 5 _ (by decide) rfl, hj 6 _ (by decide) rfl, hj 7 _ (by decide) rfl, hj 8 _ (by decide) rfl, hj 9 _ (by decide) rfl, hj 10 _ (by decide) rfl⟩
theorem at_occ {w : World} {F : Nat → Prop} {A : Option Addr} {n c : Nat} {l : List Int} (h : RdF folS w F ⟨A, n, c⟩ l) {k : Nat} (hk : k < l.length) : ∃ a, A = some a ∧ w.cell? (a.add k) = some (.int .i64 l[k]) := by
 obtain ⟨a, e, hb, h0, hj⟩ := (((h.inW folOk).rd (fun _ h => h)).at2 folOk hk)
 have h1 := h0 _ rfl
 exact ⟨a, e, by simpa [folS] using h1⟩
def SamRet (w : World) (e : Ending) (w' : World) : Prop := e = .returned (.bool true) ∧ Below w.heap.size w w'
def SamOk (t : Nd) : Prop := ∀ (w : World) (F G : Nat → Prop) (x y : NV), NdR w F x t → NdR w G y t → Calls Tryd.prog 20 #[x.val, y.val] w (SamRet w)
def OccRel (wb : World) (n : Nat) (iv : Value) (wr : World) : Prop := ∃ k : Nat, k ≤ n ∧ iv = .int .i64 (k : Int) ∧ Below wb.heap.size wb wr
theorem same_of (kind n : Int) (field text : List UInt8) (lo hi : Bd) (occ : List Int) (kids : List Nd) (ih : ∀ t ∈ kids, SamOk t) : SamOk (.mk kind field text n lo hi occ kids) := by
 intro w F G x y hx hy
 cases hx with
 | @mk _ _ _ _ _ _ so sk _ nl _ hso hsk hnl hall =>
 cases hy with
 | @mk _ _ _ _ _ _ so2 sk2 _ nl2 _ hso2 hsk2 hnl2 hall2 =>
 obtain ⟨oa, on, oc⟩ := so; obtain ⟨ka, kn, kc⟩ := sk
 obtain ⟨oa2, on2, oc2⟩ := so2; obtain ⟨ka2, kn2, kc2⟩ := sk2
 obtain ⟨l1, l2, l3⟩ := lo; obtain ⟨r1, r2, r3⟩ := hi
 obtain rfl : on = occ.length := hso.1
 obtain rfl : on2 = occ.length := hso2.1
 obtain rfl : kn = kids.length := hsk.1.trans hnl
 obtain rfl : kn2 = kids.length := hsk2.1.trans hnl2
 have HON := LH (Nat.le_trans hso.2.1 hso.2.2.1)
 have HKN := LH (Nat.le_trans hsk.2.1 hsk.2.2.1)
 have honb : occ.length ≤ 9223372036854775807 := by have := HON.out; unfold maxLen at this; omega
 have hknb : kids.length ≤ 9223372036854775807 := by have := HKN.out; unfold maxLen at this; omega
 have HB2 := LH (show Below w.heap.size w ((w.alloc (.cells #[.int .i64 kind, .string (str field), .string (str text), .int .i64 n, .bool l1, .bool l2, .string (str l3), .bool r1, .bool r2, .string (str r3), .slice oa occ.length oc, .slice ka kids.length kc] 36)).alloc (.cells #[.int .i64 kind, .string (str field), .string (str text), .int .i64 n, .bool l1, .bool l2, .string (str l3), .bool r1, .bool r2, .string (str r3), .slice oa2 occ.length oc2, .slice ka2 kids.length kc2] 36)) from ((Below.refl _ _).alloc (Nat.le_refl _) _).alloc (by rw [World.size_alloc]; omega) _)
 have hnew := fun (cs : Array Value) (t : TypeId) (W : World) => Blk.new W t cs
 have HX2 := LH ((hnew _ 36 w).alloc (.cells #[.int .i64 kind, .string (str field), .string (str text), .int .i64 n, .bool l1, .bool l2, .string (str l3), .bool r1, .bool r2, .string (str r3), .slice oa2 occ.length oc2, .slice ka2 kids.length kc2] 36) : Blk ((w.alloc (.cells #[.int .i64 kind, .string (str field), .string (str text), .int .i64 n, .bool l1, .bool l2, .string (str l3), .bool r1, .bool r2, .string (str r3), .slice oa occ.length oc, .slice ka kids.length kc] 36)).alloc (.cells #[.int .i64 kind, .string (str field), .string (str text), .int .i64 n, .bool l1, .bool l2, .string (str l3), .bool r1, .bool r2, .string (str r3), .slice oa2 occ.length oc2, .slice ka2 kids.length kc2] 36)) w.heap.size 36 #[.int .i64 kind, .string (str field), .string (str text), .int .i64 n, .bool l1, .bool l2, .string (str l3), .bool r1, .bool r2, .string (str r3), .slice oa occ.length oc, .slice ka kids.length kc])
 have HY2 := LH (show Blk ((w.alloc (.cells #[.int .i64 kind, .string (str field), .string (str text), .int .i64 n, .bool l1, .bool l2, .string (str l3), .bool r1, .bool r2, .string (str r3), .slice oa occ.length oc, .slice ka kids.length kc] 36)).alloc (.cells #[.int .i64 kind, .string (str field), .string (str text), .int .i64 n, .bool l1, .bool l2, .string (str l3), .bool r1, .bool r2, .string (str r3), .slice oa2 occ.length oc2, .slice ka2 kids.length kc2] 36)) (w.heap.size + 1) 36 #[.int .i64 kind, .string (str field), .string (str text), .int .i64 n, .bool l1, .bool l2, .string (str l3), .bool r1, .bool r2, .string (str r3), .slice oa2 occ.length oc2, .slice ka2 kids.length kc2] from by have h := hnew #[.int .i64 kind, .string (str field), .string (str text), .int .i64 n, .bool l1, .bool l2, .string (str l3), .bool r1, .bool r2, .string (str r3), .slice oa2 occ.length oc2, .slice ka2 kids.length kc2] 36 (w.alloc (.cells #[.int .i64 kind, .string (str field), .string (str text), .int .i64 n, .bool l1, .bool l2, .string (str l3), .bool r1, .bool r2, .string (str r3), .slice oa occ.length oc, .slice ka kids.length kc] 36)); rw [World.size_alloc] at h; exact h)
 have HSO := LH (hso.belowW HB2.out); have HSO2 := LH (hso2.belowW HB2.out); have HSK := LH (hsk.belowW HB2.out); have HSK2 := LH (hsk2.belowW HB2.out)
 have HNL := LH hnl; have HNL2 := LH hnl2
 have HALL := LH (fun (i : Nat) (x : NV) (t : Nd) (h1 : nl[i]? = some x) (h2 : kids[i]? = some t) => (hall i x t h1 h2).belowW HB2.out)
 have HALL2 := LH (fun (i : Nat) (x : NV) (t : Nd) (h1 : nl2[i]? = some x) (h2 : kids[i]? = some t) => (hall2 i x t h1 h2).belowW HB2.out)
 have HIH := LH ih
 have hbn1 := fun W => bd_ne l1 l2 (str l3) W
 have hbn2 := fun W => bd_ne r1 r2 (str r3) W
 have hbg1 := fun op a b W => bd_guard l1 l2 (str l3) op a b W
 have hbg2 := fun op a b W => bd_guard r1 r2 (str r3) op a b W
 clear hso hso2 hsk hsk2 hnl hnl2 hall hall2 ih hnew
 unfold NV.val
 simp only []
 go_enter Tryd.func20, Tryd.ntmps20
 go_wp2_with fail
 generalize ((w.alloc (.cells #[.int .i64 kind, .string (str field), .string (str text), .int .i64 n, .bool l1, .bool l2, .string (str l3), .bool r1, .bool r2, .string (str r3), .slice oa occ.length oc, .slice ka kids.length kc] 36)).alloc (.cells #[.int .i64 kind, .string (str field), .string (str text), .int .i64 n, .bool l1, .bool l2, .string (str l3), .bool r1, .bool r2, .string (str r3), .slice oa2 occ.length oc2, .slice ka2 kids.length kc2] 36)) = w2 at *
 go_loopw [67] (fun iv wr => OccRel w2 occ.length iv wr) (fun iv _ => occ.length - (intOf iv).toNat)
 case atStart => exact ⟨0, Nat.zero_le _, rfl, Below.refl _ _⟩
 case round =>
  obtain ⟨k, hk, rfl, hb⟩ := hrel
  have HBR := LH hb
  have x10 := (HX2.out.belowW hb).cell 10; have x11 := (HX2.out.belowW hb).cell 11
  have y10 := (HY2.out.belowW hb).cell 10; have y11 := (HY2.out.belowW hb).cell 11
  simp only [List.getElem?_toArray, List.getElem?_cons_zero, List.getElem?_cons_succ] at x10 x11 y10 y11
  clear hb
  by_cases hlt : k < occ.length
  ·obtain ⟨a, rfl, q0⟩ := at_occ (HSO.out.belowW HBR.out) hlt
   obtain ⟨a2, rfl, p0⟩ := at_occ (HSO2.out.belowW HBR.out) hlt
   generalize occ[k] = z at *
   go_wp2_with fail
   go_quiet (fail)
   go_wp2
   go_roundw
   case rel => exact ⟨k + 1, by omega, by go_num, below_drewN HBR.out _⟩
   case measure => simp [intOf]; omega
  ·go_wp2_with fail
   clear x10 x11 y10 y11 hlt hk
   go_loopw [85] (fun iv wr => OccRel w2 kids.length iv wr) (fun iv _ => kids.length - (intOf iv).toNat)
   case atStart => exact ⟨0, Nat.zero_le _, rfl, HBR.out⟩
   case round =>
    obtain ⟨k, hk, rfl, hb⟩ := hrel
    have HBR := LH hb
    have x11 := (HX2.out.belowW hb).cell 11; have y11 := (HY2.out.belowW hb).cell 11
    have lx := (HX2.out.belowW hb).lt; have ly := (HY2.out.belowW hb).lt
    simp only [List.getElem?_toArray, List.getElem?_cons_zero, List.getElem?_cons_succ] at x11 y11
    clear hb
    by_cases hlt : k < kids.length
    ·have hk1 : k < nl.length := by rw [HNL.out]; exact hlt
     have hk2 : k < nl2.length := by rw [HNL2.out]; exact hlt
     obtain ⟨a, rfl, hab, q0, q1, q2, q3, q4, q5, q6, q7, q8, q9, q10, q11⟩ := at_ndk (HSK.out.belowW HBR.out) hk1
     obtain ⟨a2, rfl, hab2, p0, p1, p2, p3, p4, p5, p6, p7, p8, p9, p10, p11⟩ := at_ndk (HSK2.out.belowW HBR.out) hk2
     have hx := (HALL.out k nl[k] kids[k] (List.getElem?_eq_getElem hk1) (List.getElem?_eq_getElem hlt)).belowW HBR.out
     have hy := (HALL2.out k nl2[k] kids[k] (List.getElem?_eq_getElem hk2) (List.getElem?_eq_getElem hlt)).belowW HBR.out
     have hc := HIH.out kids[k] (List.getElem_mem hlt)
     generalize kids[k] = t at hx hy hc
     generalize nl[k] = x at *
     generalize nl2[k] = y at *
     obtain ⟨kd3, fl3, tx3, xn3, ⟨la3, lb3, lc3⟩, ⟨ra3, rb3, rc3⟩, ⟨oa3, on3, oc3⟩, ⟨ka3, kn3, kc3⟩⟩ := x
     obtain ⟨kd4, fl4, tx4, xn4, ⟨la4, lb4, lc4⟩, ⟨ra4, rb4, rc4⟩, ⟨oa4, on4, oc4⟩, ⟨ka4, kn4, kc4⟩⟩ := y
     simp only [] at q0 q1 q2 q3 q4 q5 q6 q7 q8 q9 q10 q11 p0 p1 p2 p3 p4 p5 p6 p7 p8 p9 p10 p11
     have HCC := LH (fun (W : World) (hW : Below wr.heap.size wr W) => (hc W _ _ _ _ (hx.belowW hW) (hy.belowW hW)).mono (fun e w' (h : SamRet W e w') => (show e = .returned (.bool true) ∧ Below wr.heap.size wr w' from ⟨h.1, hW.trans (h.2.mono hW.size)⟩)))
     unfold NV.val at HCC
     simp only [] at HCC
     have HSF := LH (fun (W : World) (hW : Below wr.heap.size wr W) => (show W.cell? ⟨w.heap.size, 11, none⟩ = some (.slice (some a) kids.length kc) ∧ W.cell? ⟨w.heap.size + 1, 11, none⟩ = some (.slice (some a2) kids.length kc2) ∧ W.cell? (a.add (k * 12)) = some (.int .i64 kd3) ∧ W.cell? ⟨(a.add (k * 12)).block, (a.add (k * 12)).off + 1, none⟩ = some (.string (str fl3)) ∧ W.cell? ⟨(a.add (k * 12)).block, (a.add (k * 12)).off + 2, none⟩ = some (.string (str tx3)) ∧ W.cell? ⟨(a.add (k * 12)).block, (a.add (k * 12)).off + 3, none⟩ = some (.int .i64 xn3) ∧ W.cell? ⟨(a.add (k * 12)).block, (a.add (k * 12)).off + 4, none⟩ = some (.bool la3) ∧ W.cell? ⟨(a.add (k * 12)).block, (a.add (k * 12)).off + 5, none⟩ = some (.bool lb3) ∧ W.cell? ⟨(a.add (k * 12)).block, (a.add (k * 12)).off + 6, none⟩ = some (.string (str lc3)) ∧ W.cell? ⟨(a.add (k * 12)).block, (a.add (k * 12)).off + 7, none⟩ = some (.bool ra3) ∧ W.cell? ⟨(a.add (k * 12)).block, (a.add (k * 12)).off + 8, none⟩ = some (.bool rb3) ∧ W.cell? ⟨(a.add (k * 12)).block, (a.add (k * 12)).off + 9, none⟩ = some (.string (str rc3)) ∧ W.cell? ⟨(a.add (k * 12)).block, (a.add (k * 12)).off + 10, none⟩ = some (.slice oa3 on3 oc3) ∧ W.cell? ⟨(a.add (k * 12)).block, (a.add (k * 12)).off + 11, none⟩ = some (.slice ka3 kn3 kc3) ∧ W.cell? (a2.add (k * 12)) = some (.int .i64 kd4) ∧ W.cell? ⟨(a2.add (k * 12)).block, (a2.add (k * 12)).off + 1, none⟩ = some (.string (str fl4)) ∧ W.cell? ⟨(a2.add (k * 12)).block, (a2.add (k * 12)).off + 2, none⟩ = some (.string (str tx4)) ∧ W.cell? ⟨(a2.add (k * 12)).block, (a2.add (k * 12)).off + 3, none⟩ = some (.int .i64 xn4) ∧ W.cell? ⟨(a2.add (k * 12)).block, (a2.add (k * 12)).off + 4, none⟩ = some (.bool la4) ∧ W.cell? ⟨(a2.add (k * 12)).block, (a2.add (k * 12)).off + 5, none⟩ = some (.bool lb4) ∧ W.cell? ⟨(a2.add (k * 12)).block, (a2.add (k * 12)).off + 6, none⟩ = some (.string (str lc4)) ∧ W.cell? ⟨(a2.add (k * 12)).block, (a2.add (k * 12)).off + 7, none⟩ = some (.bool ra4) ∧ W.cell? ⟨(a2.add (k * 12)).block, (a2.add (k * 12)).off + 8, none⟩ = some (.bool rb4) ∧ W.cell? ⟨(a2.add (k * 12)).block, (a2.add (k * 12)).off + 9, none⟩ = some (.string (str rc4)) ∧ W.cell? ⟨(a2.add (k * 12)).block, (a2.add (k * 12)).off + 10, none⟩ = some (.slice oa4 on4 oc4) ∧ W.cell? ⟨(a2.add (k * 12)).block, (a2.add (k * 12)).off + 11, none⟩ = some (.slice ka4 kn4 kc4) ∧ Below wr.heap.size wr W from
      ⟨(hW.cell (p := ⟨w.heap.size, 11, none⟩) lx).trans x11, (hW.cell (p := ⟨w.heap.size + 1, 11, none⟩) ly).trans y11, (hW.cell (p := a.add (k * 12)) hab).trans q0, (hW.cell (p := ⟨(a.add (k * 12)).block, (a.add (k * 12)).off + 1, none⟩) hab).trans q1, (hW.cell (p := ⟨(a.add (k * 12)).block, (a.add (k * 12)).off + 2, none⟩) hab).trans q2, (hW.cell (p := ⟨(a.add (k * 12)).block, (a.add (k * 12)).off + 3, none⟩) hab).trans q3, (hW.cell (p := ⟨(a.add (k * 12)).block, (a.add (k * 12)).off + 4, none⟩) hab).trans q4, (hW.cell (p := ⟨(a.add (k * 12)).block, (a.add (k * 12)).off + 5, none⟩) hab).trans q5, (hW.cell (p := ⟨(a.add (k * 12)).block, (a.add (k * 12)).off + 6, none⟩) hab).trans q6, (hW.cell (p := ⟨(a.add (k * 12)).block, (a.add (k * 12)).off + 7, none⟩) hab).trans q7, (hW.cell (p := ⟨(a.add (k * 12)).block, (a.add (k * 12)).off + 8, none⟩) hab).trans q8, (hW.cell (p := ⟨(a.add (k * 12)).block, (a.add (k * 12)).off + 9, none⟩) hab).trans q9, (hW.cell (p := ⟨(a.add (k * 12)).block, (a.add (k * 12)).off + 10, none⟩) hab).trans q10, (hW.cell (p := ⟨(a.add (k * 12)).block, (a.add (k * 12)).off + 11, none⟩) hab).trans q11, (hW.cell (p := a2.add (k * 12)) hab2).trans p0, (hW.cell (p := ⟨(a2.add (k * 12)).block, (a2.add (k * 12)).off + 1, none⟩) hab2).trans p1, (hW.cell (p := ⟨(a2.add (k * 12)).block, (a2.add (k * 12)).off + 2, none⟩) hab2).trans p2, (hW.cell (p := ⟨(a2.add (k * 12)).block, (a2.add (k * 12)).off + 3, none⟩) hab2).trans p3, (hW.cell (p := ⟨(a2.add (k * 12)).block, (a2.add (k * 12)).off + 4, none⟩) hab2).trans p4, (hW.cell (p := ⟨(a2.add (k * 12)).block, (a2.add (k * 12)).off + 5, none⟩) hab2).trans p5, (hW.cell (p := ⟨(a2.add (k * 12)).block, (a2.add (k * 12)).off + 6, none⟩) hab2).trans p6, (hW.cell (p := ⟨(a2.add (k * 12)).block, (a2.add (k * 12)).off + 7, none⟩) hab2).trans p7, (hW.cell (p := ⟨(a2.add (k * 12)).block, (a2.add (k * 12)).off + 8, none⟩) hab2).trans p8, (hW.cell (p := ⟨(a2.add (k * 12)).block, (a2.add (k * 12)).off + 9, none⟩) hab2).trans p9, (hW.cell (p := ⟨(a2.add (k * 12)).block, (a2.add (k * 12)).off + 10, none⟩) hab2).trans p10, (hW.cell (p := ⟨(a2.add (k * 12)).block, (a2.add (k * 12)).off + 11, none⟩) hab2).trans p11, hW⟩))
     clear x11 y11 q0 q1 q2 q3 q4 q5 q6 q7 q8 q9 q10 q11 p0 p1 p2 p3 p4 p5 p6 p7 p8 p9 p10 p11 hx hy hc
     go_wp2_with fail
     go_region_held3 (fun W => W.cell? ⟨w.heap.size, 11, none⟩ = some (.slice (some a) kids.length kc) ∧ W.cell? ⟨w.heap.size + 1, 11, none⟩ = some (.slice (some a2) kids.length kc2) ∧ W.cell? (a.add (k * 12)) = some (.int .i64 kd3) ∧ W.cell? ⟨(a.add (k * 12)).block, (a.add (k * 12)).off + 1, none⟩ = some (.string (str fl3)) ∧ W.cell? ⟨(a.add (k * 12)).block, (a.add (k * 12)).off + 2, none⟩ = some (.string (str tx3)) ∧ W.cell? ⟨(a.add (k * 12)).block, (a.add (k * 12)).off + 3, none⟩ = some (.int .i64 xn3) ∧ W.cell? ⟨(a.add (k * 12)).block, (a.add (k * 12)).off + 4, none⟩ = some (.bool la3) ∧ W.cell? ⟨(a.add (k * 12)).block, (a.add (k * 12)).off + 5, none⟩ = some (.bool lb3) ∧ W.cell? ⟨(a.add (k * 12)).block, (a.add (k * 12)).off + 6, none⟩ = some (.string (str lc3)) ∧ W.cell? ⟨(a.add (k * 12)).block, (a.add (k * 12)).off + 7, none⟩ = some (.bool ra3) ∧ W.cell? ⟨(a.add (k * 12)).block, (a.add (k * 12)).off + 8, none⟩ = some (.bool rb3) ∧ W.cell? ⟨(a.add (k * 12)).block, (a.add (k * 12)).off + 9, none⟩ = some (.string (str rc3)) ∧ W.cell? ⟨(a.add (k * 12)).block, (a.add (k * 12)).off + 10, none⟩ = some (.slice oa3 on3 oc3) ∧ W.cell? ⟨(a.add (k * 12)).block, (a.add (k * 12)).off + 11, none⟩ = some (.slice ka3 kn3 kc3) ∧ W.cell? (a2.add (k * 12)) = some (.int .i64 kd4) ∧ W.cell? ⟨(a2.add (k * 12)).block, (a2.add (k * 12)).off + 1, none⟩ = some (.string (str fl4)) ∧ W.cell? ⟨(a2.add (k * 12)).block, (a2.add (k * 12)).off + 2, none⟩ = some (.string (str tx4)) ∧ W.cell? ⟨(a2.add (k * 12)).block, (a2.add (k * 12)).off + 3, none⟩ = some (.int .i64 xn4) ∧ W.cell? ⟨(a2.add (k * 12)).block, (a2.add (k * 12)).off + 4, none⟩ = some (.bool la4) ∧ W.cell? ⟨(a2.add (k * 12)).block, (a2.add (k * 12)).off + 5, none⟩ = some (.bool lb4) ∧ W.cell? ⟨(a2.add (k * 12)).block, (a2.add (k * 12)).off + 6, none⟩ = some (.string (str lc4)) ∧ W.cell? ⟨(a2.add (k * 12)).block, (a2.add (k * 12)).off + 7, none⟩ = some (.bool ra4) ∧ W.cell? ⟨(a2.add (k * 12)).block, (a2.add (k * 12)).off + 8, none⟩ = some (.bool rb4) ∧ W.cell? ⟨(a2.add (k * 12)).block, (a2.add (k * 12)).off + 9, none⟩ = some (.string (str rc4)) ∧ W.cell? ⟨(a2.add (k * 12)).block, (a2.add (k * 12)).off + 10, none⟩ = some (.slice oa4 on4 oc4) ∧ W.cell? ⟨(a2.add (k * 12)).block, (a2.add (k * 12)).off + 11, none⟩ = some (.slice ka4 kn4 kc4) ∧ Below wr.heap.size wr W) (exact HSF.out _ (by repeat (first | assumption | exact Below.refl _ _ | with_reducible refine Below.drew ?_))) (((with_reducible refine (HCC.out _ ?_).mono ?_); (repeat (first | assumption | exact Below.refl _ _ | with_reducible refine Below.drew ?_)); (rintro e w' ⟨rfl, hk1⟩)))
     rename_i hfin
     have HBF := LH (show Below w2.heap.size w2 _ from HBR.out.trans (hfin.2.2.2.2.2.2.2.2.2.2.2.2.2.2.2.2.2.2.2.2.2.2.2.2.2.2.mono HBR.out.size))
     clear hfin
     go_wp2
     go_roundw
     case rel => exact ⟨k + 1, by omega, by go_num, HBF.out⟩
     case measure => simp [intOf]; omega
    ·go_wp2
     go_ret
     exact ⟨rfl, HB2.out.trans (HBR.out.mono HB2.out.size)⟩
theorem same_all (t : Nd) : SamOk t := by
 have h : ∀ (N : Nat) (t : Nd), SizeOf.sizeOf t ≤ N → SamOk t := by
  intro N
  induction N with
  | zero => intro t ht; cases t; simp at ht
  | succ N ih =>
   intro t ht
   cases t with
   | mk kind field text n lo hi occ kids =>
    refine same_of _ _ _ _ _ _ _ _ fun u hu => ih u ?_
    have := List.sizeOf_lt_of_mem hu
    simp at ht; omega
 exact h (SizeOf.sizeOf t) t (Nat.le_refl _)
end Go.Proofs.YtcomdkejpaoneaaDoor
end
