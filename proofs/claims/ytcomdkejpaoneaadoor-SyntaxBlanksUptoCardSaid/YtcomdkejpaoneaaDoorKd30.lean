/- Merged for a claim by shake.py: Za Up -/
import Derived.Test.YtcomdkejpaoneaaDoorKd1
import Derived.Test.YtcomdkejpaoneaaDoorKd2
import Derived.Test.YtcomdkejpaoneaaDoorKd29
section
namespace Go.Proofs.YtcomdkejpaoneaaDoor
open Go.RowKit
set_option maxRecDepth 100000
set_option maxHeartbeats 8000000
set_option linter.unusedSimpArgs false
set_option linter.unusedVariables false
theorem bd_in (a b : Bool) (t : ByteArray) (W : World) : (Op.equalIn 10000 32 (.agg #[.bool a, .bool b, .string t]) (.agg #[.bool a, .bool b, .string t])).run Tryd.prog W = .ok true W := by
  rw [run_equalIn_agg W 9999 32 _ _ (show Tryd.prog.underlying 32 = some (.struct (Tryd.prog.fieldsOf 32)) from by kernel_rfl) (by kernel_rfl)]
  simp only [Program.fieldsOf, Tryd.underlying32]
  simp [Op.eqFields, go_sem, Tryd.underlying4, Tryd.underlying9]
theorem bd_ne (a b : Bool) (t : ByteArray) (W : World) : (binOp .neq 32 (.agg #[.bool a, .bool b, .string t]) (.agg #[.bool a, .bool b, .string t])).run Tryd.prog W = .ok (.bool false) W := by
  have h := bd_in a b t W
  rw [run_neq_struct, h]; rfl
theorem bd_guard (a b : Bool) (t : ByteArray) (op : BinOp) (x y : Operand) (W : World) : (eqGuard op 32 x y (.agg #[.bool a, .bool b, .string t]) (.agg #[.bool a, .bool b, .string t])).run Tryd.prog W = .ok () W :=
  run_eqGuard_agg W op 32 x y _ _ (by kernel_rfl)
theorem RdF.inW {α : Type} {S : Shape α} {w : World} {F : Nat → Prop} {s : Sl} {l : List α} (h : RdF S w F s l) (hS : S.Ok) : RdF S w (fun b => b < w.heap.size) s l := by
  obtain ⟨h1, h2, h3, h4, h5⟩ := h
  refine ⟨h1, h2, h3, fun hn => ?_, h5⟩
  obtain ⟨a, e, hb, hc⟩ := h4 hn
  refine ⟨a, e, ?_, hc⟩
  have hl : 0 < (S.cells l).length := by rw [Shape.cells_length hS]; exact Nat.mul_pos hn hS.pos
  have h6 := hc 0 _ (List.getElem?_eq_getElem hl)
  have := World.block_lt_of_cell? w _ h6
  rw [block_of_add] at this; exact this
theorem at_ndk {w : World} {F : Nat → Prop} {A : Option Addr} {n c : Nat} {l : List NV} (h : RdF ndS w F ⟨A, n, c⟩ l) {k : Nat} (hk : k < l.length) : ∃ a, A = some a ∧ (a.add (k * 12)).block < w.heap.size
    ∧ w.cell? (a.add (k * 12)) = some (.int .i64 l[k].kind)
    ∧ w.cell? ⟨(a.add (k * 12)).block, (a.add (k * 12)).off + 1, none⟩ = some (.string (str l[k].field))
    ∧ w.cell? ⟨(a.add (k * 12)).block, (a.add (k * 12)).off + 2, none⟩ = some (.string (str l[k].text))
    ∧ w.cell? ⟨(a.add (k * 12)).block, (a.add (k * 12)).off + 3, none⟩ = some (.int .i64 l[k].n)
    ∧ w.cell? ⟨(a.add (k * 12)).block, (a.add (k * 12)).off + 4, none⟩ = some (.bool l[k].lo.open_)
    ∧ w.cell? ⟨(a.add (k * 12)).block, (a.add (k * 12)).off + 5, none⟩ = some (.bool l[k].lo.in_)
    ∧ w.cell? ⟨(a.add (k * 12)).block, (a.add (k * 12)).off + 6, none⟩ = some (.string (str l[k].lo.text))
    ∧ w.cell? ⟨(a.add (k * 12)).block, (a.add (k * 12)).off + 7, none⟩ = some (.bool l[k].hi.open_)
    ∧ w.cell? ⟨(a.add (k * 12)).block, (a.add (k * 12)).off + 8, none⟩ = some (.bool l[k].hi.in_)
    ∧ w.cell? ⟨(a.add (k * 12)).block, (a.add (k * 12)).off + 9, none⟩ = some (.string (str l[k].hi.text))
    ∧ w.cell? ⟨(a.add (k * 12)).block, (a.add (k * 12)).off + 10, none⟩ = some (.slice l[k].occ.a l[k].occ.n l[k].occ.c)
    ∧ w.cell? ⟨(a.add (k * 12)).block, (a.add (k * 12)).off + 11, none⟩ = some (.slice l[k].kids.a l[k].kids.n l[k].kids.c) := by
  obtain ⟨a, e, hb, h0, hj⟩ := (((h.inW ndOk).rd (fun _ h => h)).at2 ndOk hk)
  refine ⟨a, e, hb, h0 _ rfl, hj 0 _ (by decide) rfl, hj 1 _ (by decide) rfl, hj 2 _ (by decide) rfl, hj 3 _ (by decide) rfl, hj 4 _ (by decide) rfl, hj 5 _ (by decide) rfl, hj 6 _ (by decide) rfl, hj 7 _ (by decide) rfl, hj 8 _ (by decide) rfl, hj 9 _ (by decide) rfl, hj 10 _ (by decide) rfl⟩
theorem at_occ {w : World} {F : Nat → Prop} {A : Option Addr} {n c : Nat} {l : List Int} (h : RdF folS w F ⟨A, n, c⟩ l) {k : Nat} (hk : k < l.length) : ∃ a, A = some a ∧ w.cell? (a.add k) = some (.int .i64 l[k]) := by
  obtain ⟨a, e, hb, h0, hj⟩ := (((h.inW folOk).rd (fun _ h => h)).at2 folOk hk)
  have h1 := h0 _ rfl
  exact ⟨a, e, by simpa [folS] using h1⟩
def SamRet (w : World) (e : Ending) (w' : World) : Prop := e = .returned (.bool true) ∧ Below w.heap.size w w'
def SamOk (t : Nd) : Prop := ∀ (w : World) (F G : Nat → Prop) (x y : NV), NdR w F x t → NdR w G y t → Calls Tryd.prog 20 #[x.val, y.val] w (SamRet w)
def OccRel (wb : World) (n : Nat) (iv : Value) (wr : World) : Prop := ∃ k : Nat, k ≤ n ∧ iv = .int .i64 (k : Int) ∧ Below wb.heap.size wb wr
theorem same_of (kind n : Int) (field text : List UInt8) (lo hi : Bd) (occ : List Int) (kids : List Nd) (ih : ∀ t ∈ kids, SamOk t) : SamOk (.mk kind field text n lo hi occ kids) := by
  intro w F G x y hx hy
  cases hx with
  | @mk _ _ _ _ _ _ so sk _ nl _ hso hsk hnl hall =>
  cases hy with
  | @mk _ _ _ _ _ _ so2 sk2 _ nl2 _ hso2 hsk2 hnl2 hall2 =>
  obtain ⟨oa, on, oc⟩ := so; obtain ⟨ka, kn, kc⟩ := sk
  obtain ⟨oa2, on2, oc2⟩ := so2; obtain ⟨ka2, kn2, kc2⟩ := sk2
  obtain ⟨l1, l2, l3⟩ := lo; obtain ⟨r1, r2, r3⟩ := hi
  obtain rfl : on = occ.length := hso.1
  obtain rfl : on2 = occ.length := hso2.1
  obtain rfl : kn = kids.length := hsk.1.trans hnl
  obtain rfl : kn2 = kids.length := hsk2.1.trans hnl2
  have HON := Lib.hid (Nat.le_trans hso.2.1 hso.2.2.1)
  have HKN := Lib.hid (Nat.le_trans hsk.2.1 hsk.2.2.1)
  have honb : occ.length ≤ 9223372036854775807 := by have := HON.out; unfold maxLen at this; omega
  have hknb : kids.length ≤ 9223372036854775807 := by have := HKN.out; unfold maxLen at this; omega
  have HB2 := Lib.hid (show Below w.heap.size w ((w.alloc (.cells #[.int .i64 kind, .string (str field), .string (str text), .int .i64 n, .bool l1, .bool l2, .string (str l3), .bool r1, .bool r2, .string (str r3), .slice oa occ.length oc, .slice ka kids.length kc] 36)).alloc (.cells #[.int .i64 kind, .string (str field), .string (str text), .int .i64 n, .bool l1, .bool l2, .string (str l3), .bool r1, .bool r2, .string (str r3), .slice oa2 occ.length oc2, .slice ka2 kids.length kc2] 36)) from ((Below.refl _ _).alloc (Nat.le_refl _) _).alloc (by rw [World.size_alloc]; omega) _)
  have hnew := fun (cs : Array Value) (t : TypeId) (W : World) => Blk.new W t cs
  have HX2 := Lib.hid ((hnew _ 36 w).alloc (.cells #[.int .i64 kind, .string (str field), .string (str text), .int .i64 n, .bool l1, .bool l2, .string (str l3), .bool r1, .bool r2, .string (str r3), .slice oa2 occ.length oc2, .slice ka2 kids.length kc2] 36) : Blk ((w.alloc (.cells #[.int .i64 kind, .string (str field), .string (str text), .int .i64 n, .bool l1, .bool l2, .string (str l3), .bool r1, .bool r2, .string (str r3), .slice oa occ.length oc, .slice ka kids.length kc] 36)).alloc (.cells #[.int .i64 kind, .string (str field), .string (str text), .int .i64 n, .bool l1, .bool l2, .string (str l3), .bool r1, .bool r2, .string (str r3), .slice oa2 occ.length oc2, .slice ka2 kids.length kc2] 36)) w.heap.size 36 #[.int .i64 kind, .string (str field), .string (str text), .int .i64 n, .bool l1, .bool l2, .string (str l3), .bool r1, .bool r2, .string (str r3), .slice oa occ.length oc, .slice ka kids.length kc])
  have HY2 := Lib.hid (show Blk ((w.alloc (.cells #[.int .i64 kind, .string (str field), .string (str text), .int .i64 n, .bool l1, .bool l2, .string (str l3), .bool r1, .bool r2, .string (str r3), .slice oa occ.length oc, .slice ka kids.length kc] 36)).alloc (.cells #[.int .i64 kind, .string (str field), .string (str text), .int .i64 n, .bool l1, .bool l2, .string (str l3), .bool r1, .bool r2, .string (str r3), .slice oa2 occ.length oc2, .slice ka2 kids.length kc2] 36)) (w.heap.size + 1) 36 #[.int .i64 kind, .string (str field), .string (str text), .int .i64 n, .bool l1, .bool l2, .string (str l3), .bool r1, .bool r2, .string (str r3), .slice oa2 occ.length oc2, .slice ka2 kids.length kc2] from by have h := hnew #[.int .i64 kind, .string (str field), .string (str text), .int .i64 n, .bool l1, .bool l2, .string (str l3), .bool r1, .bool r2, .string (str r3), .slice oa2 occ.length oc2, .slice ka2 kids.length kc2] 36 (w.alloc (.cells #[.int .i64 kind, .string (str field), .string (str text), .int .i64 n, .bool l1, .bool l2, .string (str l3), .bool r1, .bool r2, .string (str r3), .slice oa occ.length oc, .slice ka kids.length kc] 36)); rw [World.size_alloc] at h; exact h)
  have HSO := Lib.hid (hso.belowW HB2.out); have HSO2 := Lib.hid (hso2.belowW HB2.out); have HSK := Lib.hid (hsk.belowW HB2.out); have HSK2 := Lib.hid (hsk2.belowW HB2.out)
  have HNL := Lib.hid hnl; have HNL2 := Lib.hid hnl2
  have HALL := Lib.hid (fun (i : Nat) (x : NV) (t : Nd) (h1 : nl[i]? = some x) (h2 : kids[i]? = some t) => (hall i x t h1 h2).belowW HB2.out)
  have HALL2 := Lib.hid (fun (i : Nat) (x : NV) (t : Nd) (h1 : nl2[i]? = some x) (h2 : kids[i]? = some t) => (hall2 i x t h1 h2).belowW HB2.out)
  have HIH := Lib.hid ih
  have hbn1 := fun W => bd_ne l1 l2 (str l3) W
  have hbn2 := fun W => bd_ne r1 r2 (str r3) W
  have hbg1 := fun op a b W => bd_guard l1 l2 (str l3) op a b W
  have hbg2 := fun op a b W => bd_guard r1 r2 (str r3) op a b W
  clear hso hso2 hsk hsk2 hnl hnl2 hall hall2 ih hnew
  unfold NV.val
  simp only []
  go_enter Tryd.func20, Tryd.ntmps20
  go_wp2_with fail
  generalize ((w.alloc (.cells #[.int .i64 kind, .string (str field), .string (str text), .int .i64 n, .bool l1, .bool l2, .string (str l3), .bool r1, .bool r2, .string (str r3), .slice oa occ.length oc, .slice ka kids.length kc] 36)).alloc (.cells #[.int .i64 kind, .string (str field), .string (str text), .int .i64 n, .bool l1, .bool l2, .string (str l3), .bool r1, .bool r2, .string (str r3), .slice oa2 occ.length oc2, .slice ka2 kids.length kc2] 36)) = w2 at *
  go_loopw [67] (fun iv wr => OccRel w2 occ.length iv wr) (fun iv _ => occ.length - (intOf iv).toNat)
  case atStart => exact ⟨0, Nat.zero_le _, rfl, Below.refl _ _⟩
  case round =>
    obtain ⟨k, hk, rfl, hb⟩ := hrel
    have HBR := Lib.hid hb
    have x10 := (HX2.out.belowW hb).cell 10; have x11 := (HX2.out.belowW hb).cell 11
    have y10 := (HY2.out.belowW hb).cell 10; have y11 := (HY2.out.belowW hb).cell 11
    simp only [List.getElem?_toArray, List.getElem?_cons_zero, List.getElem?_cons_succ] at x10 x11 y10 y11
    clear hb
    by_cases hlt : k < occ.length
    · obtain ⟨a, rfl, q0⟩ := at_occ (HSO.out.belowW HBR.out) hlt
      obtain ⟨a2, rfl, p0⟩ := at_occ (HSO2.out.belowW HBR.out) hlt
      generalize occ[k] = z at *
      go_wp2_with fail
      go_quiet (fail)
      go_wp2
      go_roundw
      case rel => exact ⟨k + 1, by omega, by go_num, below_drewN HBR.out _⟩
      case measure => simp [intOf]; omega
    · go_wp2_with fail
      clear x10 x11 y10 y11 hlt hk
      go_loopw [85] (fun iv wr => OccRel w2 kids.length iv wr) (fun iv _ => kids.length - (intOf iv).toNat)
      case atStart => exact ⟨0, Nat.zero_le _, rfl, HBR.out⟩
      case round =>
        obtain ⟨k, hk, rfl, hb⟩ := hrel
        have HBR := Lib.hid hb
        have x11 := (HX2.out.belowW hb).cell 11; have y11 := (HY2.out.belowW hb).cell 11
        have lx := (HX2.out.belowW hb).lt; have ly := (HY2.out.belowW hb).lt
        simp only [List.getElem?_toArray, List.getElem?_cons_zero, List.getElem?_cons_succ] at x11 y11
        clear hb
        by_cases hlt : k < kids.length
        · have hk1 : k < nl.length := by rw [HNL.out]; exact hlt
          have hk2 : k < nl2.length := by rw [HNL2.out]; exact hlt
          obtain ⟨a, rfl, hab, q0, q1, q2, q3, q4, q5, q6, q7, q8, q9, q10, q11⟩ := at_ndk (HSK.out.belowW HBR.out) hk1
          obtain ⟨a2, rfl, hab2, p0, p1, p2, p3, p4, p5, p6, p7, p8, p9, p10, p11⟩ := at_ndk (HSK2.out.belowW HBR.out) hk2
          have hx := (HALL.out k nl[k] kids[k] (List.getElem?_eq_getElem hk1) (List.getElem?_eq_getElem hlt)).belowW HBR.out
          have hy := (HALL2.out k nl2[k] kids[k] (List.getElem?_eq_getElem hk2) (List.getElem?_eq_getElem hlt)).belowW HBR.out
          have hc := HIH.out kids[k] (List.getElem_mem hlt)
          generalize kids[k] = t at hx hy hc
          generalize nl[k] = x at *
          generalize nl2[k] = y at *
          obtain ⟨kd3, fl3, tx3, xn3, ⟨la3, lb3, lc3⟩, ⟨ra3, rb3, rc3⟩, ⟨oa3, on3, oc3⟩, ⟨ka3, kn3, kc3⟩⟩ := x
          obtain ⟨kd4, fl4, tx4, xn4, ⟨la4, lb4, lc4⟩, ⟨ra4, rb4, rc4⟩, ⟨oa4, on4, oc4⟩, ⟨ka4, kn4, kc4⟩⟩ := y
          simp only [] at q0 q1 q2 q3 q4 q5 q6 q7 q8 q9 q10 q11 p0 p1 p2 p3 p4 p5 p6 p7 p8 p9 p10 p11
          have HCC := Lib.hid (fun (W : World) (hW : Below wr.heap.size wr W) => (hc W _ _ _ _ (hx.belowW hW) (hy.belowW hW)).mono (fun e w' (h : SamRet W e w') => (show e = .returned (.bool true) ∧ Below wr.heap.size wr w' from ⟨h.1, hW.trans (h.2.mono hW.size)⟩)))
          unfold NV.val at HCC
          simp only [] at HCC
          have HSF := Lib.hid (fun (W : World) (hW : Below wr.heap.size wr W) => (show W.cell? ⟨w.heap.size, 11, none⟩ = some (.slice (some a) kids.length kc) ∧ W.cell? ⟨w.heap.size + 1, 11, none⟩ = some (.slice (some a2) kids.length kc2) ∧ W.cell? (a.add (k * 12)) = some (.int .i64 kd3) ∧ W.cell? ⟨(a.add (k * 12)).block, (a.add (k * 12)).off + 1, none⟩ = some (.string (str fl3)) ∧ W.cell? ⟨(a.add (k * 12)).block, (a.add (k * 12)).off + 2, none⟩ = some (.string (str tx3)) ∧ W.cell? ⟨(a.add (k * 12)).block, (a.add (k * 12)).off + 3, none⟩ = some (.int .i64 xn3) ∧ W.cell? ⟨(a.add (k * 12)).block, (a.add (k * 12)).off + 4, none⟩ = some (.bool la3) ∧ W.cell? ⟨(a.add (k * 12)).block, (a.add (k * 12)).off + 5, none⟩ = some (.bool lb3) ∧ W.cell? ⟨(a.add (k * 12)).block, (a.add (k * 12)).off + 6, none⟩ = some (.string (str lc3)) ∧ W.cell? ⟨(a.add (k * 12)).block, (a.add (k * 12)).off + 7, none⟩ = some (.bool ra3) ∧ W.cell? ⟨(a.add (k * 12)).block, (a.add (k * 12)).off + 8, none⟩ = some (.bool rb3) ∧ W.cell? ⟨(a.add (k * 12)).block, (a.add (k * 12)).off + 9, none⟩ = some (.string (str rc3)) ∧ W.cell? ⟨(a.add (k * 12)).block, (a.add (k * 12)).off + 10, none⟩ = some (.slice oa3 on3 oc3) ∧ W.cell? ⟨(a.add (k * 12)).block, (a.add (k * 12)).off + 11, none⟩ = some (.slice ka3 kn3 kc3) ∧ W.cell? (a2.add (k * 12)) = some (.int .i64 kd4) ∧ W.cell? ⟨(a2.add (k * 12)).block, (a2.add (k * 12)).off + 1, none⟩ = some (.string (str fl4)) ∧ W.cell? ⟨(a2.add (k * 12)).block, (a2.add (k * 12)).off + 2, none⟩ = some (.string (str tx4)) ∧ W.cell? ⟨(a2.add (k * 12)).block, (a2.add (k * 12)).off + 3, none⟩ = some (.int .i64 xn4) ∧ W.cell? ⟨(a2.add (k * 12)).block, (a2.add (k * 12)).off + 4, none⟩ = some (.bool la4) ∧ W.cell? ⟨(a2.add (k * 12)).block, (a2.add (k * 12)).off + 5, none⟩ = some (.bool lb4) ∧ W.cell? ⟨(a2.add (k * 12)).block, (a2.add (k * 12)).off + 6, none⟩ = some (.string (str lc4)) ∧ W.cell? ⟨(a2.add (k * 12)).block, (a2.add (k * 12)).off + 7, none⟩ = some (.bool ra4) ∧ W.cell? ⟨(a2.add (k * 12)).block, (a2.add (k * 12)).off + 8, none⟩ = some (.bool rb4) ∧ W.cell? ⟨(a2.add (k * 12)).block, (a2.add (k * 12)).off + 9, none⟩ = some (.string (str rc4)) ∧ W.cell? ⟨(a2.add (k * 12)).block, (a2.add (k * 12)).off + 10, none⟩ = some (.slice oa4 on4 oc4) ∧ W.cell? ⟨(a2.add (k * 12)).block, (a2.add (k * 12)).off + 11, none⟩ = some (.slice ka4 kn4 kc4) ∧ Below wr.heap.size wr W from
            ⟨(hW.cell (p := ⟨w.heap.size, 11, none⟩) lx).trans x11, (hW.cell (p := ⟨w.heap.size + 1, 11, none⟩) ly).trans y11, (hW.cell (p := a.add (k * 12)) hab).trans q0, (hW.cell (p := ⟨(a.add (k * 12)).block, (a.add (k * 12)).off + 1, none⟩) hab).trans q1, (hW.cell (p := ⟨(a.add (k * 12)).block, (a.add (k * 12)).off + 2, none⟩) hab).trans q2, (hW.cell (p := ⟨(a.add (k * 12)).block, (a.add (k * 12)).off + 3, none⟩) hab).trans q3, (hW.cell (p := ⟨(a.add (k * 12)).block, (a.add (k * 12)).off + 4, none⟩) hab).trans q4, (hW.cell (p := ⟨(a.add (k * 12)).block, (a.add (k * 12)).off + 5, none⟩) hab).trans q5, (hW.cell (p := ⟨(a.add (k * 12)).block, (a.add (k * 12)).off + 6, none⟩) hab).trans q6, (hW.cell (p := ⟨(a.add (k * 12)).block, (a.add (k * 12)).off + 7, none⟩) hab).trans q7, (hW.cell (p := ⟨(a.add (k * 12)).block, (a.add (k * 12)).off + 8, none⟩) hab).trans q8, (hW.cell (p := ⟨(a.add (k * 12)).block, (a.add (k * 12)).off + 9, none⟩) hab).trans q9, (hW.cell (p := ⟨(a.add (k * 12)).block, (a.add (k * 12)).off + 10, none⟩) hab).trans q10, (hW.cell (p := ⟨(a.add (k * 12)).block, (a.add (k * 12)).off + 11, none⟩) hab).trans q11, (hW.cell (p := a2.add (k * 12)) hab2).trans p0, (hW.cell (p := ⟨(a2.add (k * 12)).block, (a2.add (k * 12)).off + 1, none⟩) hab2).trans p1, (hW.cell (p := ⟨(a2.add (k * 12)).block, (a2.add (k * 12)).off + 2, none⟩) hab2).trans p2, (hW.cell (p := ⟨(a2.add (k * 12)).block, (a2.add (k * 12)).off + 3, none⟩) hab2).trans p3, (hW.cell (p := ⟨(a2.add (k * 12)).block, (a2.add (k * 12)).off + 4, none⟩) hab2).trans p4, (hW.cell (p := ⟨(a2.add (k * 12)).block, (a2.add (k * 12)).off + 5, none⟩) hab2).trans p5, (hW.cell (p := ⟨(a2.add (k * 12)).block, (a2.add (k * 12)).off + 6, none⟩) hab2).trans p6, (hW.cell (p := ⟨(a2.add (k * 12)).block, (a2.add (k * 12)).off + 7, none⟩) hab2).trans p7, (hW.cell (p := ⟨(a2.add (k * 12)).block, (a2.add (k * 12)).off + 8, none⟩) hab2).trans p8, (hW.cell (p := ⟨(a2.add (k * 12)).block, (a2.add (k * 12)).off + 9, none⟩) hab2).trans p9, (hW.cell (p := ⟨(a2.add (k * 12)).block, (a2.add (k * 12)).off + 10, none⟩) hab2).trans p10, (hW.cell (p := ⟨(a2.add (k * 12)).block, (a2.add (k * 12)).off + 11, none⟩) hab2).trans p11, hW⟩))
          clear x11 y11 q0 q1 q2 q3 q4 q5 q6 q7 q8 q9 q10 q11 p0 p1 p2 p3 p4 p5 p6 p7 p8 p9 p10 p11 hx hy hc
          go_wp2_with fail
          go_region_held3 (fun W => W.cell? ⟨w.heap.size, 11, none⟩ = some (.slice (some a) kids.length kc) ∧ W.cell? ⟨w.heap.size + 1, 11, none⟩ = some (.slice (some a2) kids.length kc2) ∧ W.cell? (a.add (k * 12)) = some (.int .i64 kd3) ∧ W.cell? ⟨(a.add (k * 12)).block, (a.add (k * 12)).off + 1, none⟩ = some (.string (str fl3)) ∧ W.cell? ⟨(a.add (k * 12)).block, (a.add (k * 12)).off + 2, none⟩ = some (.string (str tx3)) ∧ W.cell? ⟨(a.add (k * 12)).block, (a.add (k * 12)).off + 3, none⟩ = some (.int .i64 xn3) ∧ W.cell? ⟨(a.add (k * 12)).block, (a.add (k * 12)).off + 4, none⟩ = some (.bool la3) ∧ W.cell? ⟨(a.add (k * 12)).block, (a.add (k * 12)).off + 5, none⟩ = some (.bool lb3) ∧ W.cell? ⟨(a.add (k * 12)).block, (a.add (k * 12)).off + 6, none⟩ = some (.string (str lc3)) ∧ W.cell? ⟨(a.add (k * 12)).block, (a.add (k * 12)).off + 7, none⟩ = some (.bool ra3) ∧ W.cell? ⟨(a.add (k * 12)).block, (a.add (k * 12)).off + 8, none⟩ = some (.bool rb3) ∧ W.cell? ⟨(a.add (k * 12)).block, (a.add (k * 12)).off + 9, none⟩ = some (.string (str rc3)) ∧ W.cell? ⟨(a.add (k * 12)).block, (a.add (k * 12)).off + 10, none⟩ = some (.slice oa3 on3 oc3) ∧ W.cell? ⟨(a.add (k * 12)).block, (a.add (k * 12)).off + 11, none⟩ = some (.slice ka3 kn3 kc3) ∧ W.cell? (a2.add (k * 12)) = some (.int .i64 kd4) ∧ W.cell? ⟨(a2.add (k * 12)).block, (a2.add (k * 12)).off + 1, none⟩ = some (.string (str fl4)) ∧ W.cell? ⟨(a2.add (k * 12)).block, (a2.add (k * 12)).off + 2, none⟩ = some (.string (str tx4)) ∧ W.cell? ⟨(a2.add (k * 12)).block, (a2.add (k * 12)).off + 3, none⟩ = some (.int .i64 xn4) ∧ W.cell? ⟨(a2.add (k * 12)).block, (a2.add (k * 12)).off + 4, none⟩ = some (.bool la4) ∧ W.cell? ⟨(a2.add (k * 12)).block, (a2.add (k * 12)).off + 5, none⟩ = some (.bool lb4) ∧ W.cell? ⟨(a2.add (k * 12)).block, (a2.add (k * 12)).off + 6, none⟩ = some (.string (str lc4)) ∧ W.cell? ⟨(a2.add (k * 12)).block, (a2.add (k * 12)).off + 7, none⟩ = some (.bool ra4) ∧ W.cell? ⟨(a2.add (k * 12)).block, (a2.add (k * 12)).off + 8, none⟩ = some (.bool rb4) ∧ W.cell? ⟨(a2.add (k * 12)).block, (a2.add (k * 12)).off + 9, none⟩ = some (.string (str rc4)) ∧ W.cell? ⟨(a2.add (k * 12)).block, (a2.add (k * 12)).off + 10, none⟩ = some (.slice oa4 on4 oc4) ∧ W.cell? ⟨(a2.add (k * 12)).block, (a2.add (k * 12)).off + 11, none⟩ = some (.slice ka4 kn4 kc4) ∧ Below wr.heap.size wr W) (exact HSF.out _ (by repeat (first | assumption | exact Below.refl _ _ | with_reducible refine Below.drew ?_))) (((with_reducible refine (HCC.out _ ?_).mono ?_); (repeat (first | assumption | exact Below.refl _ _ | with_reducible refine Below.drew ?_)); (rintro e w' ⟨rfl, hk1⟩)))
          rename_i hfin
          have HBF := Lib.hid (show Below w2.heap.size w2 _ from HBR.out.trans (hfin.2.2.2.2.2.2.2.2.2.2.2.2.2.2.2.2.2.2.2.2.2.2.2.2.2.2.mono HBR.out.size))
          clear hfin
          go_wp2
          go_roundw
          case rel => exact ⟨k + 1, by omega, by go_num, HBF.out⟩
          case measure => simp [intOf]; omega
        · go_wp2
          go_ret
          exact ⟨rfl, HB2.out.trans (HBR.out.mono HB2.out.size)⟩
theorem same_all (t : Nd) : SamOk t := by
  have h : ∀ (N : Nat) (t : Nd), SizeOf.sizeOf t ≤ N → SamOk t := by
    intro N
    induction N with
    | zero => intro t ht; cases t; simp at ht
    | succ N ih =>
      intro t ht
      cases t with
      | mk kind field text n lo hi occ kids =>
        refine same_of _ _ _ _ _ _ _ _ fun u hu => ih u ?_
        have := List.sizeOf_lt_of_mem hu
        simp at ht; omega
  exact h (SizeOf.sizeOf t) t (Nat.le_refl _)
end Go.Proofs.YtcomdkejpaoneaaDoor
end
section
namespace Go.Proofs.YtcomdkejpaoneaaDoor
open Go.RowKit
set_option maxRecDepth 100000
set_option maxHeartbeats 4000000
set_option linter.unusedSimpArgs false
set_option linter.unusedVariables false
theorem flt_assert (v : Value) (W : World) : (Instr.typeAssert (.iface 69 v) 20 69 true).run Tryd.prog W = .ok (.tuple #[v, .bool true]) W := by
  simp [Instr.typeAssert, run_underlying (show Tryd.prog.underlying 69 = some (.struct (Tryd.prog.fieldsOf 69)) from by kernel_rfl), go_sem, Result.andThen]
def nv0 : Array Value := #[.int .i64 0, .string ⟨#[]⟩, .string ⟨#[]⟩, .int .i64 0, .bool false, .bool false, .string ⟨#[]⟩, .bool false, .bool false, .string ⟨#[]⟩, .slice none 0 0, .slice none 0 0]
def CloRet (b : Nat) (p : Int) (v : Value) (w w' : World) : Prop :=
  Below b w w' ∧ Blk w' b 36 nv0 ∧ Blk w' (b + 1) 3 #[.int .i64 p] ∧ Blk w' (b + 1 + 1) 24 #[v]
theorem pclose_fault (b : Nat) (p : Int) (ea : List Addr) (ei : Nat) (older : List PanicEntry) (w : World) (hz : Blk w b 36 nv0) (hi : Blk w (b + 1) 3 #[.int .i64 0]) (hn : Blk w (b + 1 + 1) 24 #[.nilIface]) :
    CallsD Tryd.prog 34 #[.pointer (some ⟨b, 0, none⟩), .pointer (some ⟨b + 1, 0, none⟩), .pointer (some ⟨b + 1 + 1, 0, none⟩)] (.panicking ({ v := fltV p (errI ea ei), recovered := false } :: older)) w fun e u' w' =>
      e = .returned (.tuple #[]) ∧ u' = .panicking ({ v := fltV p (errI ea ei), recovered := true } :: older) ∧ CloRet b p (errI ea ei) w w' := by
  have hta := flt_assert
  have he : errI ea ei = .iface 140 (.pointer (some (ea.getD ei ⟨0, 0, none⟩))) := rfl
  rw [he]
  generalize ea.getD ei ⟨0, 0, none⟩ = a at *
  clear he
  refine callsD_of_wpS Tryd.func34 rfl fun c₀ cs hu => ?_
  unfold fltV at hu ⊢
  apply wpS_seq
  apply wpS_region
  simp [wpOpsS, go_sem, recoverD, hu, Tryd.ntmps34, Exit.thenS]
  refine wpS_of_wp ?_
  have HB := Lib.hid (show Below b w (w.alloc (.cells #[.int .i64 p, .iface 140 (.pointer (some a))] 69)) from (Below.refl _ _).alloc (Nat.le_of_lt hz.lt) _)
  have HZ := Lib.hid (hz.alloc (.cells #[.int .i64 p, .iface 140 (.pointer (some a))] 69))
  have HI := Lib.hid (hi.alloc (.cells #[.int .i64 p, .iface 140 (.pointer (some a))] 69))
  have HN := Lib.hid (hn.alloc (.cells #[.int .i64 p, .iface 140 (.pointer (some a))] 69))
  have HF := Lib.hid (Blk.new w 69 #[.int .i64 p, .iface 140 (.pointer (some a))])
  have HLT := Lib.hid hn.lt
  clear hz hi hn
  go_wp2_with fail
  generalize w.alloc (.cells #[.int .i64 p, .iface 140 (.pointer (some a))] 69) = w1 at *
  have hS0 : w1.drew.cell? ⟨w.heap.size, 0, none⟩ = some (.int .i64 p) ∧ w1.drew.cell? ⟨w.heap.size, 1, none⟩ = some (.iface 140 (.pointer (some a))) := ⟨HF.out.cell 0, HF.out.cell 1⟩
  refine ph_region (fun W => W.cell? ⟨w.heap.size, 0, none⟩ = some (.int .i64 p) ∧ W.cell? ⟨w.heap.size, 1, none⟩ = some (.iface 140 (.pointer (some a)))) 7 (by kernel_rfl) ?_
  refine phAny_take (i := 1) (v := .pointer (some ⟨w.heap.size, 0, none⟩)) [6, 2] rfl (by kernel_rfl) (fun _ _ _ h => h) (Or.inl ⟨by rfl, fun W1 hS1 => by obtain ⟨s0, s1⟩ := hS1; clear hS0; go_simp⟩) hS0 ?_
  simp only [Act.put, List.setIfInBounds_toArray, List.set_cons_zero, List.set_cons_succ]
  refine phAny_take (i := 2) (v := .int .i64 p) [6] rfl (by kernel_rfl) (fun _ _ _ h => h) (Or.inl ⟨by rfl, fun W1 hS1 => by obtain ⟨s0, s1⟩ := hS1; clear hS0; go_simp⟩) hS0 ?_
  simp only [Act.put, List.setIfInBounds_toArray, List.set_cons_zero, List.set_cons_succ]
  refine phAny_take (i := 3) (v := .pointer (some ⟨w.heap.size, 1, none⟩)) [4] rfl (by kernel_rfl) (fun _ _ _ h => h) (Or.inl ⟨by rfl, fun W1 hS1 => by obtain ⟨s0, s1⟩ := hS1; clear hS0; go_simp⟩) hS0 ?_
  simp only [Act.put, List.setIfInBounds_toArray, List.set_cons_zero, List.set_cons_succ]
  refine phAny_take (i := 4) (v := .iface 140 (.pointer (some a))) [] rfl (by kernel_rfl) (fun _ _ _ h => h) (Or.inl ⟨by rfl, fun W1 hS1 => by obtain ⟨s0, s1⟩ := hS1; clear hS0; go_simp⟩) hS0 ?_
  simp only [Act.put, List.setIfInBounds_toArray, List.set_cons_zero, List.set_cons_succ]
  clear hS0
  have HZ2 := Lib.hid (show Blk w1.drew b 36 nv0 from HZ.out)
  have HI2 := Lib.hid (show Blk w1.drew (b + 1) 3 #[.int .i64 0] from HI.out)
  have HN2 := Lib.hid (show Blk w1.drew (b + 1 + 1) 24 #[.nilIface] from HN.out)
  have HF2 := Lib.hid (show Blk w1.drew w.heap.size 69 #[.int .i64 p, .iface 140 (.pointer (some a))] from HF.out)
  have HB2 := Lib.hid (show Below b w w1.drew from HB.out.drew)
  clear HZ HI HN HF HB
  generalize w1.drew = w2 at *
  have hS1 : w2.cell? ⟨w.heap.size, 0, none⟩ = some (.int .i64 p) ∧ w2.cell? ⟨w.heap.size, 1, none⟩ = some (.iface 140 (.pointer (some a))) := ⟨HF2.out.cell 0, HF2.out.cell 1⟩
  refine phAny_pure (i := 0) (v := .agg nv0) rfl (by kernel_rfl) (fun _ _ _ h => h) (Or.inl ⟨by rfl, fun W1 _ => by clear hS1; unfold nv0; go_simp⟩) (fun _ => hS1) ?_
  clear hS1
  unfold nv0
  try simp only [Act.put, List.setIfInBounds_toArray, List.set_cons_zero, List.set_cons_succ]
  refine phAny_ready (rs := [5]) (by kernel_rfl) (by simp) ?_
  refine phAll.cons rfl (fun K hK => ?_) phAll.nil
  have hzz := HZ2.out
  unfold nv0 at hzz
  have lz := hzz.lt
  have z0 := hzz.cell 0; have z1 := hzz.cell 1; have z2 := hzz.cell 2; have z3 := hzz.cell 3; have z4 := hzz.cell 4; have z5 := hzz.cell 5; have z6 := hzz.cell 6; have z7 := hzz.cell 7; have z8 := hzz.cell 8; have z9 := hzz.cell 9; have z10 := hzz.cell 10; have z11 := hzz.cell 11
  have fz0 := hzz.frozen 0; have fz1 := hzz.frozen 1; have fz2 := hzz.frozen 2; have fz3 := hzz.frozen 3; have fz4 := hzz.frozen 4; have fz5 := hzz.frozen 5; have fz6 := hzz.frozen 6; have fz7 := hzz.frozen 7; have fz8 := hzz.frozen 8; have fz9 := hzz.frozen 9; have fz10 := hzz.frozen 10; have fz11 := hzz.frozen 11
  simp only [List.getElem?_toArray, List.getElem?_cons_zero, List.getElem?_cons_succ] at z0 z1 z2 z3 z4 z5 z6 z7 z8 z9 z10 z11
  clear hzz
  go_simp
  clear z0 z1 z2 z3 z4 z5 z6 z7 z8 z9 z10 z11 fz0 fz1 fz2 fz3 fz4 fz5 fz6 fz7 fz8 fz9 fz10 fz11 lz
  have HZ3 := Lib.hid (show Blk ((((((((((((w2.setCell ⟨b, 0, none⟩ (.int .i64 0)).setCell ⟨b, 1, none⟩ (.string ⟨#[]⟩)).setCell ⟨b, 2, none⟩ (.string ⟨#[]⟩)).setCell ⟨b, 3, none⟩ (.int .i64 0)).setCell ⟨b, 4, none⟩ (.bool false)).setCell ⟨b, 5, none⟩ (.bool false)).setCell ⟨b, 6, none⟩ (.string ⟨#[]⟩)).setCell ⟨b, 7, none⟩ (.bool false)).setCell ⟨b, 8, none⟩ (.bool false)).setCell ⟨b, 9, none⟩ (.string ⟨#[]⟩)).setCell ⟨b, 10, none⟩ (.slice none 0 0)).setCell ⟨b, 11, none⟩ (.slice none 0 0)) b 36 nv0 from Blk.set12 (x := ⟨0, [], [], 0, bd0, bd0, ⟨none, 0, 0⟩, ⟨none, 0, 0⟩⟩) (y := ⟨0, [], [], 0, bd0, bd0, ⟨none, 0, 0⟩, ⟨none, 0, 0⟩⟩) HZ2.out)
  have HI3 := Lib.hid (show Blk ((((((((((((w2.setCell ⟨b, 0, none⟩ (.int .i64 0)).setCell ⟨b, 1, none⟩ (.string ⟨#[]⟩)).setCell ⟨b, 2, none⟩ (.string ⟨#[]⟩)).setCell ⟨b, 3, none⟩ (.int .i64 0)).setCell ⟨b, 4, none⟩ (.bool false)).setCell ⟨b, 5, none⟩ (.bool false)).setCell ⟨b, 6, none⟩ (.string ⟨#[]⟩)).setCell ⟨b, 7, none⟩ (.bool false)).setCell ⟨b, 8, none⟩ (.bool false)).setCell ⟨b, 9, none⟩ (.string ⟨#[]⟩)).setCell ⟨b, 10, none⟩ (.slice none 0 0)).setCell ⟨b, 11, none⟩ (.slice none 0 0)) (b + 1) 3 #[.int .i64 0] from ((((((((((((HI2.out.far (p := ⟨b, 0, none⟩) (by show b + 1 ≠ b; omega) (.int .i64 0)).far (p := ⟨b, 1, none⟩) (by show b + 1 ≠ b; omega) (.string ⟨#[]⟩)).far (p := ⟨b, 2, none⟩) (by show b + 1 ≠ b; omega) (.string ⟨#[]⟩)).far (p := ⟨b, 3, none⟩) (by show b + 1 ≠ b; omega) (.int .i64 0)).far (p := ⟨b, 4, none⟩) (by show b + 1 ≠ b; omega) (.bool false)).far (p := ⟨b, 5, none⟩) (by show b + 1 ≠ b; omega) (.bool false)).far (p := ⟨b, 6, none⟩) (by show b + 1 ≠ b; omega) (.string ⟨#[]⟩)).far (p := ⟨b, 7, none⟩) (by show b + 1 ≠ b; omega) (.bool false)).far (p := ⟨b, 8, none⟩) (by show b + 1 ≠ b; omega) (.bool false)).far (p := ⟨b, 9, none⟩) (by show b + 1 ≠ b; omega) (.string ⟨#[]⟩)).far (p := ⟨b, 10, none⟩) (by show b + 1 ≠ b; omega) (.slice none 0 0)).far (p := ⟨b, 11, none⟩) (by show b + 1 ≠ b; omega) (.slice none 0 0)))
  have HN3 := Lib.hid (show Blk ((((((((((((w2.setCell ⟨b, 0, none⟩ (.int .i64 0)).setCell ⟨b, 1, none⟩ (.string ⟨#[]⟩)).setCell ⟨b, 2, none⟩ (.string ⟨#[]⟩)).setCell ⟨b, 3, none⟩ (.int .i64 0)).setCell ⟨b, 4, none⟩ (.bool false)).setCell ⟨b, 5, none⟩ (.bool false)).setCell ⟨b, 6, none⟩ (.string ⟨#[]⟩)).setCell ⟨b, 7, none⟩ (.bool false)).setCell ⟨b, 8, none⟩ (.bool false)).setCell ⟨b, 9, none⟩ (.string ⟨#[]⟩)).setCell ⟨b, 10, none⟩ (.slice none 0 0)).setCell ⟨b, 11, none⟩ (.slice none 0 0)) (b + 1 + 1) 24 #[.nilIface] from ((((((((((((HN2.out.far (p := ⟨b, 0, none⟩) (by show b + 1 + 1 ≠ b; omega) (.int .i64 0)).far (p := ⟨b, 1, none⟩) (by show b + 1 + 1 ≠ b; omega) (.string ⟨#[]⟩)).far (p := ⟨b, 2, none⟩) (by show b + 1 + 1 ≠ b; omega) (.string ⟨#[]⟩)).far (p := ⟨b, 3, none⟩) (by show b + 1 + 1 ≠ b; omega) (.int .i64 0)).far (p := ⟨b, 4, none⟩) (by show b + 1 + 1 ≠ b; omega) (.bool false)).far (p := ⟨b, 5, none⟩) (by show b + 1 + 1 ≠ b; omega) (.bool false)).far (p := ⟨b, 6, none⟩) (by show b + 1 + 1 ≠ b; omega) (.string ⟨#[]⟩)).far (p := ⟨b, 7, none⟩) (by show b + 1 + 1 ≠ b; omega) (.bool false)).far (p := ⟨b, 8, none⟩) (by show b + 1 + 1 ≠ b; omega) (.bool false)).far (p := ⟨b, 9, none⟩) (by show b + 1 + 1 ≠ b; omega) (.string ⟨#[]⟩)).far (p := ⟨b, 10, none⟩) (by show b + 1 + 1 ≠ b; omega) (.slice none 0 0)).far (p := ⟨b, 11, none⟩) (by show b + 1 + 1 ≠ b; omega) (.slice none 0 0)))
  have HF3 := Lib.hid (show Blk ((((((((((((w2.setCell ⟨b, 0, none⟩ (.int .i64 0)).setCell ⟨b, 1, none⟩ (.string ⟨#[]⟩)).setCell ⟨b, 2, none⟩ (.string ⟨#[]⟩)).setCell ⟨b, 3, none⟩ (.int .i64 0)).setCell ⟨b, 4, none⟩ (.bool false)).setCell ⟨b, 5, none⟩ (.bool false)).setCell ⟨b, 6, none⟩ (.string ⟨#[]⟩)).setCell ⟨b, 7, none⟩ (.bool false)).setCell ⟨b, 8, none⟩ (.bool false)).setCell ⟨b, 9, none⟩ (.string ⟨#[]⟩)).setCell ⟨b, 10, none⟩ (.slice none 0 0)).setCell ⟨b, 11, none⟩ (.slice none 0 0)) w.heap.size 69 #[.int .i64 p, (.iface 140 (.pointer (some a)))] from ((((((((((((HF2.out.far (p := ⟨b, 0, none⟩) (by have := HLT.out; show w.heap.size ≠ b; omega) (.int .i64 0)).far (p := ⟨b, 1, none⟩) (by have := HLT.out; show w.heap.size ≠ b; omega) (.string ⟨#[]⟩)).far (p := ⟨b, 2, none⟩) (by have := HLT.out; show w.heap.size ≠ b; omega) (.string ⟨#[]⟩)).far (p := ⟨b, 3, none⟩) (by have := HLT.out; show w.heap.size ≠ b; omega) (.int .i64 0)).far (p := ⟨b, 4, none⟩) (by have := HLT.out; show w.heap.size ≠ b; omega) (.bool false)).far (p := ⟨b, 5, none⟩) (by have := HLT.out; show w.heap.size ≠ b; omega) (.bool false)).far (p := ⟨b, 6, none⟩) (by have := HLT.out; show w.heap.size ≠ b; omega) (.string ⟨#[]⟩)).far (p := ⟨b, 7, none⟩) (by have := HLT.out; show w.heap.size ≠ b; omega) (.bool false)).far (p := ⟨b, 8, none⟩) (by have := HLT.out; show w.heap.size ≠ b; omega) (.bool false)).far (p := ⟨b, 9, none⟩) (by have := HLT.out; show w.heap.size ≠ b; omega) (.string ⟨#[]⟩)).far (p := ⟨b, 10, none⟩) (by have := HLT.out; show w.heap.size ≠ b; omega) (.slice none 0 0)).far (p := ⟨b, 11, none⟩) (by have := HLT.out; show w.heap.size ≠ b; omega) (.slice none 0 0)))
  have HB3 := Lib.hid (show Below b w ((((((((((((w2.setCell ⟨b, 0, none⟩ (.int .i64 0)).setCell ⟨b, 1, none⟩ (.string ⟨#[]⟩)).setCell ⟨b, 2, none⟩ (.string ⟨#[]⟩)).setCell ⟨b, 3, none⟩ (.int .i64 0)).setCell ⟨b, 4, none⟩ (.bool false)).setCell ⟨b, 5, none⟩ (.bool false)).setCell ⟨b, 6, none⟩ (.string ⟨#[]⟩)).setCell ⟨b, 7, none⟩ (.bool false)).setCell ⟨b, 8, none⟩ (.bool false)).setCell ⟨b, 9, none⟩ (.string ⟨#[]⟩)).setCell ⟨b, 10, none⟩ (.slice none 0 0)).setCell ⟨b, 11, none⟩ (.slice none 0 0)) from ((((((((((((HB2.out.setCell (p := ⟨b, 0, none⟩) (Nat.le_refl _) (.int .i64 0)).setCell (p := ⟨b, 1, none⟩) (Nat.le_refl _) (.string ⟨#[]⟩)).setCell (p := ⟨b, 2, none⟩) (Nat.le_refl _) (.string ⟨#[]⟩)).setCell (p := ⟨b, 3, none⟩) (Nat.le_refl _) (.int .i64 0)).setCell (p := ⟨b, 4, none⟩) (Nat.le_refl _) (.bool false)).setCell (p := ⟨b, 5, none⟩) (Nat.le_refl _) (.bool false)).setCell (p := ⟨b, 6, none⟩) (Nat.le_refl _) (.string ⟨#[]⟩)).setCell (p := ⟨b, 7, none⟩) (Nat.le_refl _) (.bool false)).setCell (p := ⟨b, 8, none⟩) (Nat.le_refl _) (.bool false)).setCell (p := ⟨b, 9, none⟩) (Nat.le_refl _) (.string ⟨#[]⟩)).setCell (p := ⟨b, 10, none⟩) (Nat.le_refl _) (.slice none 0 0)).setCell (p := ⟨b, 11, none⟩) (Nat.le_refl _) (.slice none 0 0)))
  clear HZ2 HI2 HN2 HF2 HB2
  generalize ((((((((((((w2.setCell ⟨b, 0, none⟩ (.int .i64 0)).setCell ⟨b, 1, none⟩ (.string ⟨#[]⟩)).setCell ⟨b, 2, none⟩ (.string ⟨#[]⟩)).setCell ⟨b, 3, none⟩ (.int .i64 0)).setCell ⟨b, 4, none⟩ (.bool false)).setCell ⟨b, 5, none⟩ (.bool false)).setCell ⟨b, 6, none⟩ (.string ⟨#[]⟩)).setCell ⟨b, 7, none⟩ (.bool false)).setCell ⟨b, 8, none⟩ (.bool false)).setCell ⟨b, 9, none⟩ (.string ⟨#[]⟩)).setCell ⟨b, 10, none⟩ (.slice none 0 0)).setCell ⟨b, 11, none⟩ (.slice none 0 0)) = w3 at *
  refine hK.out _ _ (fun _ => ⟨HF3.out.cell 0, HF3.out.cell 1⟩) ?_
  clear hK K
  try simp only [Act.put, List.setIfInBounds_toArray, List.set_cons_zero, List.set_cons_succ]
  refine phAny_ready (rs := [6]) (by kernel_rfl) (by simp) ?_
  refine phAll.cons rfl (fun K hK => ?_) phAll.nil
  have li := HI3.out.lt; have i0 := HI3.out.cell 0; have fi0 := HI3.out.frozen 0
  simp only [List.getElem?_toArray, List.getElem?_cons_zero, List.getElem?_cons_succ] at i0
  go_simp
  clear li i0 fi0
  have HZ4 := Lib.hid (HZ3.out.far (p := ⟨b + 1, 0, none⟩) (by show b ≠ b + 1; omega) (.int .i64 p))
  have HI4 := Lib.hid (show Blk (w3.setCell ⟨b + 1, 0, none⟩ (.int .i64 p)) (b + 1) 3 #[.int .i64 p] from HI3.out.set_ 0 (.int .i64 p))
  have HN4 := Lib.hid (HN3.out.far (p := ⟨b + 1, 0, none⟩) (by show b + 1 + 1 ≠ b + 1; omega) (.int .i64 p))
  have HF4 := Lib.hid (HF3.out.far (p := ⟨b + 1, 0, none⟩) (by have := HLT.out; show w.heap.size ≠ b + 1; omega) (.int .i64 p))
  have HB4 := Lib.hid (HB3.out.setCell (p := ⟨b + 1, 0, none⟩) (by show b ≤ b + 1; omega) (.int .i64 p))
  clear HZ3 HI3 HN3 HF3 HB3
  generalize (w3.setCell ⟨b + 1, 0, none⟩ (.int .i64 p)) = w4 at *
  refine hK.out _ _ (fun _ => ⟨HF4.out.cell 0, HF4.out.cell 1⟩) ?_
  clear hK K
  try simp only [Act.put, List.setIfInBounds_toArray, List.set_cons_zero, List.set_cons_succ]
  refine phAny_ready (rs := [7]) (by kernel_rfl) (by simp) ?_
  refine phAll.cons rfl (fun K hK => ?_) phAll.nil
  have li := HN4.out.lt; have i0 := HN4.out.cell 0; have fi0 := HN4.out.frozen 0
  simp only [List.getElem?_toArray, List.getElem?_cons_zero, List.getElem?_cons_succ] at i0
  go_simp
  clear li i0 fi0
  have HZ5 := Lib.hid (HZ4.out.far (p := ⟨b + 1 + 1, 0, none⟩) (by show b ≠ b + 1 + 1; omega) (.iface 140 (.pointer (some a))))
  have HI5 := Lib.hid (HI4.out.far (p := ⟨b + 1 + 1, 0, none⟩) (by show b + 1 ≠ b + 1 + 1; omega) (.iface 140 (.pointer (some a))))
  have HN5 := Lib.hid (show Blk (w4.setCell ⟨b + 1 + 1, 0, none⟩ (.iface 140 (.pointer (some a)))) (b + 1 + 1) 24 #[(.iface 140 (.pointer (some a)))] from HN4.out.set_ 0 (.iface 140 (.pointer (some a))))
  have HB5 := Lib.hid (HB4.out.setCell (p := ⟨b + 1 + 1, 0, none⟩) (by show b ≤ b + 1 + 1; omega) (.iface 140 (.pointer (some a))))
  clear HZ4 HI4 HN4 HF4 HB4
  generalize (w4.setCell ⟨b + 1 + 1, 0, none⟩ (.iface 140 (.pointer (some a)))) = w5 at *
  refine hK.out _ _ (fun h => nomatch (show true = false from h)) ?_
  clear hK K
  try simp only [Act.put, List.setIfInBounds_toArray, List.set_cons_zero, List.set_cons_succ]
  refine phAny_done (by kernel_rfl) ?_ _
  have HR := Lib.hid (show CloRet b p (.iface 140 (.pointer (some a))) w w5 from ⟨HB5.out, HZ5.out, HI5.out, HN5.out⟩)
  clear HZ5 HI5 HN5 HB5
  go_wp2
  cases c₀
  simp_all [bodyPostS, results, Tryd.results34]
  exact HR.out
end Go.Proofs.YtcomdkejpaoneaaDoor
end
