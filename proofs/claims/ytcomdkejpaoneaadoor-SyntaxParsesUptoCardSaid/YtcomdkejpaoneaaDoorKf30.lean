/- Merged for a claim by shake.py: Up Uq Un -/
import Derived.Test.YtcomdkejpaoneaaDoorKfA
import Derived.Test.YtcomdkejpaoneaaDoorKf19
import Derived.Test.YtcomdkejpaoneaaDoorKf2
import Derived.Test.YtcomdkejpaoneaaDoorKf26
import Derived.Test.YtcomdkejpaoneaaDoorKf28
section
namespace Go.Proofs.YtcomdkejpaoneaaDoor
open Go.RowKit
set_option maxRecDepth 100000
set_option maxHeartbeats 4000000
set_option linter.unusedSimpArgs false
set_option linter.unusedVariables false
theorem flt_assert (v : Value) (W : World) : (Instr.typeAssert (.iface 69 v) 20 69 true).run Tryd.prog W = .ok (.tuple #[v, .bool true]) W := by
 simp [Instr.typeAssert, run_underlying (show Tryd.prog.underlying 69 = some (.struct (Tryd.prog.fieldsOf 69)) from by kernel_rfl), go_sem, Result.andThen]
def nv0 : Array Value := #[.int .i64 0, .string ⟨#[]⟩, .string ⟨#[]⟩, .int .i64 0, .bool false, .bool false, .string ⟨#[]⟩, .bool false, .bool false, .string ⟨#[]⟩, .slice none 0 0, .slice none 0 0]
def CloRet (b : Nat) (p : Int) (v : Value) (w w' : World) : Prop :=
 Below b w w' ∧ Blk w' b 36 nv0 ∧ Blk w' (b + 1) 3 #[.int .i64 p] ∧ Blk w' (b + 1 + 1) 24 #[v]
theorem pclose_fault (b : Nat) (p : Int) (ea : List Addr) (ei : Nat) (older : List PanicEntry) (w : World) (hz : Blk w b 36 nv0) (hi : Blk w (b + 1) 3 #[.int .i64 0]) (hn : Blk w (b + 1 + 1) 24 #[.nilIface]) :
  CallsD Tryd.prog 34 #[.pointer (some ⟨b, 0, none⟩), .pointer (some ⟨b + 1, 0, none⟩), .pointer (some ⟨b + 1 + 1, 0, none⟩)] (.panicking ({ v := fltV p (errI ea ei), recovered := false } :: older)) w fun e u' w' =>
   e = .returned (.tuple #[]) ∧ u' = .panicking ({ v := fltV p (errI ea ei), recovered := true } :: older) ∧ CloRet b p (errI ea ei) w w' := by
 have hta := flt_assert
 have he : errI ea ei = .iface 140 (.pointer (some (ea.getD ei ⟨0, 0, none⟩))) := rfl
 rw [he]
 generalize ea.getD ei ⟨0, 0, none⟩ = a at *
 clear he
 refine callsD_of_wpS Tryd.func34 rfl fun c₀ cs hu => ?_
 unfold fltV at hu ⊢
 apply wpS_seq
 apply wpS_region
 simp [wpOpsS, go_sem, recoverD, hu, Tryd.ntmps34, Exit.thenS]
 refine wpS_of_wp ?_
 have HB := LH (show Below b w (w.alloc (.cells #[.int .i64 p, .iface 140 (.pointer (some a))] 69)) from (Below.refl _ _).alloc (Nat.le_of_lt hz.lt) _)
 have HZ := LH (hz.alloc (.cells #[.int .i64 p, .iface 140 (.pointer (some a))] 69))
 have HI := LH (hi.alloc (.cells #[.int .i64 p, .iface 140 (.pointer (some a))] 69))
 have HN := LH (hn.alloc (.cells #[.int .i64 p, .iface 140 (.pointer (some a))] 69))
 have HF := LH (Blk.new w 69 #[.int .i64 p, .iface 140 (.pointer (some a))])
 have HLT := LH hn.lt
 clear hz hi hn
 go_wp2_with fail
 generalize w.alloc (.cells #[.int .i64 p, .iface 140 (.pointer (some a))] 69) = w1 at *
 have hS0 : w1.drew.cell? ⟨w.heap.size, 0, none⟩ = some (.int .i64 p) ∧ w1.drew.cell? ⟨w.heap.size, 1, none⟩ = some (.iface 140 (.pointer (some a))) := ⟨HF.out.cell 0, HF.out.cell 1⟩
 refine ph_region (fun W => W.cell? ⟨w.heap.size, 0, none⟩ = some (.int .i64 p) ∧ W.cell? ⟨w.heap.size, 1, none⟩ = some (.iface 140 (.pointer (some a)))) 7 (by kernel_rfl) ?_
 refine phAny_take (i := 1) (v := .pointer (some ⟨w.heap.size, 0, none⟩)) [6, 2] rfl (by kernel_rfl) (fun _ _ _ h => h) (Or.inl ⟨by rfl, fun W1 hS1 => by obtain ⟨s0, s1⟩ := hS1; clear hS0; go_simp⟩) hS0 ?_
 simp only [Act.put, List.setIfInBounds_toArray, List.set_cons_zero, List.set_cons_succ]
 refine phAny_take (i := 2) (v := .int .i64 p) [6] rfl (by kernel_rfl) (fun _ _ _ h => h) (Or.inl ⟨by rfl, fun W1 hS1 => by obtain ⟨s0, s1⟩ := hS1; clear hS0; go_simp⟩) hS0 ?_
 simp only [Act.put, List.setIfInBounds_toArray, List.set_cons_zero, List.set_cons_succ]
 refine phAny_take (i := 3) (v := .pointer (some ⟨w.heap.size, 1, none⟩)) [4] rfl (by kernel_rfl) (fun _ _ _ h => h) (Or.inl ⟨by rfl, fun W1 hS1 => by obtain ⟨s0, s1⟩ := hS1; clear hS0; go_simp⟩) hS0 ?_
 simp only [Act.put, List.setIfInBounds_toArray, List.set_cons_zero, List.set_cons_succ]
 refine phAny_take (i := 4) (v := .iface 140 (.pointer (some a))) [] rfl (by kernel_rfl) (fun _ _ _ h => h) (Or.inl ⟨by rfl, fun W1 hS1 => by obtain ⟨s0, s1⟩ := hS1; clear hS0; go_simp⟩) hS0 ?_
 simp only [Act.put, List.setIfInBounds_toArray, List.set_cons_zero, List.set_cons_succ]
 clear hS0
 have HZ2 := LH (show Blk w1.drew b 36 nv0 from HZ.out)
 have HI2 := LH (show Blk w1.drew (b + 1) 3 #[.int .i64 0] from HI.out)
 have HN2 := LH (show Blk w1.drew (b + 1 + 1) 24 #[.nilIface] from HN.out)
 have HF2 := LH (show Blk w1.drew w.heap.size 69 #[.int .i64 p, .iface 140 (.pointer (some a))] from HF.out)
 have HB2 := LH (show Below b w w1.drew from HB.out.drew)
 clear HZ HI HN HF HB
 generalize w1.drew = w2 at *
 have hS1 : w2.cell? ⟨w.heap.size, 0, none⟩ = some (.int .i64 p) ∧ w2.cell? ⟨w.heap.size, 1, none⟩ = some (.iface 140 (.pointer (some a))) := ⟨HF2.out.cell 0, HF2.out.cell 1⟩
 refine phAny_pure (i := 0) (v := .agg nv0) rfl (by kernel_rfl) (fun _ _ _ h => h) (Or.inl ⟨by rfl, fun W1 _ => by clear hS1; unfold nv0; go_simp⟩) (fun _ => hS1) ?_
 clear hS1
 unfold nv0
 try simp only [Act.put, List.setIfInBounds_toArray, List.set_cons_zero, List.set_cons_succ]
 refine phAny_ready (rs := [5]) (by kernel_rfl) (by simp) ?_
 refine phAll.cons rfl (fun K hK => ?_) phAll.nil
 have hzz := HZ2.out
 unfold nv0 at hzz
 have lz := hzz.lt
 have z0 := hzz.cell 0; have z1 := hzz.cell 1; have z2 := hzz.cell 2; have z3 := hzz.cell 3; have z4 := hzz.cell 4; have z5 := hzz.cell 5; have z6 := hzz.cell 6; have z7 := hzz.cell 7; have z8 := hzz.cell 8; have z9 := hzz.cell 9; have z10 := hzz.cell 10; have z11 := hzz.cell 11
 have fz0 := hzz.frozen 0; have fz1 := hzz.frozen 1; have fz2 := hzz.frozen 2; have fz3 := hzz.frozen 3; have fz4 := hzz.frozen 4; have fz5 := hzz.frozen 5; have fz6 := hzz.frozen 6; have fz7 := hzz.frozen 7; have fz8 := hzz.frozen 8; have fz9 := hzz.frozen 9; have fz10 := hzz.frozen 10; have fz11 := hzz.frozen 11
 simp only [List.getElem?_toArray, List.getElem?_cons_zero, List.getElem?_cons_succ] at z0 z1 z2 z3 z4 z5 z6 z7 z8 z9 z10 z11
 clear hzz
 go_simp
 clear z0 z1 z2 z3 z4 z5 z6 z7 z8 z9 z10 z11 fz0 fz1 fz2 fz3 fz4 fz5 fz6 fz7 fz8 fz9 fz10 fz11 lz
 have HZ3 := LH (show Blk ((((((((((((w2.setCell ⟨b, 0, none⟩ (.int .i64 0)).setCell ⟨b, 1, none⟩ (.string ⟨#[]⟩)).setCell ⟨b, 2, none⟩ (.string ⟨#[]⟩)).setCell ⟨b, 3, none⟩ (.int .i64 0)).setCell ⟨b, 4, none⟩ (.bool false)).setCell ⟨b, 5, none⟩ (.bool false)).setCell ⟨b, 6, none⟩ (.string ⟨#[]⟩)).setCell ⟨b, 7, none⟩ (.bool false)).setCell ⟨b, 8, none⟩ (.bool false)).setCell ⟨b, 9, none⟩ (.string ⟨#[]⟩)).setCell ⟨b, 10, none⟩ (.slice none 0 0)).setCell ⟨b, 11, none⟩ (.slice none 0 0)) b 36 nv0 from Blk.set12 (x := ⟨0, [], [], 0, bd0, bd0, ⟨none, 0, 0⟩, ⟨none, 0, 0⟩⟩) (y := ⟨0, [], [], 0, bd0, bd0, ⟨none, 0, 0⟩, ⟨none, 0, 0⟩⟩) HZ2.out)
 have HI3 := LH (show Blk ((((((((((((w2.setCell ⟨b, 0, none⟩ (.int .i64 0)).setCell ⟨b, 1, none⟩ (.string ⟨#[]⟩)).setCell ⟨b, 2, none⟩ (.string ⟨#[]⟩)).setCell ⟨b, 3, none⟩ (.int .i64 0)).setCell ⟨b, 4, none⟩ (.bool false)).setCell ⟨b, 5, none⟩ (.bool false)).setCell ⟨b, 6, none⟩ (.string ⟨#[]⟩)).setCell ⟨b, 7, none⟩ (.bool false)).setCell ⟨b, 8, none⟩ (.bool false)).setCell ⟨b, 9, none⟩ (.string ⟨#[]⟩)).setCell ⟨b, 10, none⟩ (.slice none 0 0)).setCell ⟨b, 11, none⟩ (.slice none 0 0)) (b + 1) 3 #[.int .i64 0] from ((((((((((((HI2.out.far (p := ⟨b, 0, none⟩) (by show b + 1 ≠ b; omega) (.int .i64 0)).far (p := ⟨b, 1, none⟩) (by show b + 1 ≠ b; omega) (.string ⟨#[]⟩)).far (p := ⟨b, 2, none⟩) (by show b + 1 ≠ b; omega) (.string ⟨#[]⟩)).far (p := ⟨b, 3, none⟩) (by show b + 1 ≠ b; omega) (.int .i64 0)).far (p := ⟨b, 4, none⟩) (by show b + 1 ≠ b; omega) (.bool false)).far (p := ⟨b, 5, none⟩) (by show b + 1 ≠ b; omega) (.bool false)).far (p := ⟨b, 6, none⟩) (by show b + 1 ≠ b; omega) (.string ⟨#[]⟩)).far (p := ⟨b, 7, none⟩) (by show b + 1 ≠ b; omega) (.bool false)).far (p := ⟨b, 8, none⟩) (by show b + 1 ≠ b; omega) (.bool false)).far (p := ⟨b, 9, none⟩) (by show b + 1 ≠ b; omega) (.string ⟨#[]⟩)).far (p := ⟨b, 10, none⟩) (by show b + 1 ≠ b; omega) (.slice none 0 0)).far (p := ⟨b, 11, none⟩) (by show b + 1 ≠ b; omega) (.slice none 0 0)))
 have HN3 := LH (show Blk ((((((((((((w2.setCell ⟨b, 0, none⟩ (.int .i64 0)).setCell ⟨b, 1, none⟩ (.string ⟨#[]⟩)).setCell ⟨b, 2, none⟩ (.string ⟨#[]⟩)).setCell ⟨b, 3, none⟩ (.int .i64 0)).setCell ⟨b, 4, none⟩ (.bool false)).setCell ⟨b, 5, none⟩ (.bool false)).setCell ⟨b, 6, none⟩ (.string ⟨#[]⟩)).setCell ⟨b, 7, none⟩ (.bool false)).setCell ⟨b, 8, none⟩ (.bool false)).setCell ⟨b, 9, none⟩ (.string ⟨#[]⟩)).setCell ⟨b, 10, none⟩ (.slice none 0 0)).setCell ⟨b, 11, none⟩ (.slice none 0 0)) (b + 1 + 1) 24 #[.nilIface] from ((((((((((((HN2.out.far (p := ⟨b, 0, none⟩) (by show b + 1 + 1 ≠ b; omega) (.int .i64 0)).far (p := ⟨b, 1, none⟩) (by show b + 1 + 1 ≠ b; omega) (.string ⟨#[]⟩)).far (p := ⟨b, 2, none⟩) (by show b + 1 + 1 ≠ b; omega) (.string ⟨#[]⟩)).far (p := ⟨b, 3, none⟩) (by show b + 1 + 1 ≠ b; omega) (.int .i64 0)).far (p := ⟨b, 4, none⟩) (by show b + 1 + 1 ≠ b; omega) (.bool false)).far (p := ⟨b, 5, none⟩) (by show b + 1 + 1 ≠ b; omega) (.bool false)).far (p := ⟨b, 6, none⟩) (by show b + 1 + 1 ≠ b; omega) (.string ⟨#[]⟩)).far (p := ⟨b, 7, none⟩) (by show b + 1 + 1 ≠ b; omega) (.bool false)).far (p := ⟨b, 8, none⟩) (by show b + 1 + 1 ≠ b; omega) (.bool false)).far (p := ⟨b, 9, none⟩) (by show b + 1 + 1 ≠ b; omega) (.string ⟨#[]⟩)).far (p := ⟨b, 10, none⟩) (by show b + 1 + 1 ≠ b; omega) (.slice none 0 0)).far (p := ⟨b, 11, none⟩) (by show b + 1 + 1 ≠ b; omega) (.slice none 0 0)))
 have HF3 := LH (show Blk ((((((((((((w2.setCell ⟨b, 0, none⟩ (.int .i64 0)).setCell ⟨b, 1, none⟩ (.string ⟨#[]⟩)).setCell ⟨b, 2, none⟩ (.string ⟨#[]⟩)).setCell ⟨b, 3, none⟩ (.int .i64 0)).setCell ⟨b, 4, none⟩ (.bool false)).setCell ⟨b, 5, none⟩ (.bool false)).setCell ⟨b, 6, none⟩ (.string ⟨#[]⟩)).setCell ⟨b, 7, none⟩ (.bool false)).setCell ⟨b, 8, none⟩ (.bool false)).setCell ⟨b, 9, none⟩ (.string ⟨#[]⟩)).setCell ⟨b, 10, none⟩ (.slice none 0 0)).setCell ⟨b, 11, none⟩ (.slice none 0 0)) w.heap.size 69 #[.int .i64 p, (.iface 140 (.pointer (some a)))] from ((((((((((((HF2.out.far (p := ⟨b, 0, none⟩) (by have := HLT.out; show w.heap.size ≠ b; omega) (.int .i64 0)).far (p := ⟨b, 1, none⟩) (by have := HLT.out; show w.heap.size ≠ b; omega) (.string ⟨#[]⟩)).far (p := ⟨b, 2, none⟩) (by have := HLT.out; show w.heap.size ≠ b; omega) (.string ⟨#[]⟩)).far (p := ⟨b, 3, none⟩) (by have := HLT.out; show w.heap.size ≠ b; omega) (.int .i64 0)).far (p := ⟨b, 4, none⟩) (by have := HLT.out; show w.heap.size ≠ b; omega) (.bool false)).far (p := ⟨b, 5, none⟩) (by have := HLT.out; show w.heap.size ≠ b; omega) (.bool false)).far (p := ⟨b, 6, none⟩) (by have := HLT.out; show w.heap.size ≠ b; omega) (.string ⟨#[]⟩)).far (p := ⟨b, 7, none⟩) (by have := HLT.out; show w.heap.size ≠ b; omega) (.bool false)).far (p := ⟨b, 8, none⟩) (by have := HLT.out; show w.heap.size ≠ b; omega) (.bool false)).far (p := ⟨b, 9, none⟩) (by have := HLT.out; show w.heap.size ≠ b; omega) (.string ⟨#[]⟩)).far (p := ⟨b, 10, none⟩) (by have := HLT.out; show w.heap.size ≠ b; omega) (.slice none 0 0)).far (p := ⟨b, 11, none⟩) (by have := HLT.out; show w.heap.size ≠ b; omega) (.slice none 0 0)))
 have HB3 := LH (show Below b w ((((((((((((w2.setCell ⟨b, 0, none⟩ (.int .i64 0)).setCell ⟨b, 1, none⟩ (.string ⟨#[]⟩)).setCell ⟨b, 2, none⟩ (.string ⟨#[]⟩)).setCell ⟨b, 3, none⟩ (.int .i64 0)).setCell ⟨b, 4, none⟩ (.bool false)).setCell ⟨b, 5, none⟩ (.bool false)).setCell ⟨b, 6, none⟩ (.string ⟨#[]⟩)).setCell ⟨b, 7, none⟩ (.bool false)).setCell ⟨b, 8, none⟩ (.bool false)).setCell ⟨b, 9, none⟩ (.string ⟨#[]⟩)).setCell ⟨b, 10, none⟩ (.slice none 0 0)).setCell ⟨b, 11, none⟩ (.slice none 0 0)) from ((((((((((((HB2.out.setCell (p := ⟨b, 0, none⟩) (Nat.le_refl _) (.int .i64 0)).setCell (p := ⟨b, 1, none⟩) (Nat.le_refl _) (.string ⟨#[]⟩)).setCell (p := ⟨b, 2, none⟩) (Nat.le_refl _) (.string ⟨#[]⟩)).setCell (p := ⟨b, 3, none⟩) (Nat.le_refl _) (.int .i64 0)).setCell (p := ⟨b, 4, none⟩) (Nat.le_refl _) (.bool false)).setCell (p := ⟨b, 5, none⟩) (Nat.le_refl _) (.bool false)).setCell (p := ⟨b, 6, none⟩) (Nat.le_refl _) (.string ⟨#[]⟩)).setCell (p := ⟨b, 7, none⟩) (Nat.le_refl _) (.bool false)).setCell (p := ⟨b, 8, none⟩) (Nat.le_refl _) (.bool false)).setCell (p := ⟨b, 9, none⟩) (Nat.le_refl _) (.string ⟨#[]⟩)).setCell (p := ⟨b, 10, none⟩) (Nat.le_refl _) (.slice none 0 0)).setCell (p := ⟨b, 11, none⟩) (Nat.le_refl _) (.slice none 0 0)))
 clear HZ2 HI2 HN2 HF2 HB2
 generalize ((((((((((((w2.setCell ⟨b, 0, none⟩ (.int .i64 0)).setCell ⟨b, 1, none⟩ (.string ⟨#[]⟩)).setCell ⟨b, 2, none⟩ (.string ⟨#[]⟩)).setCell ⟨b, 3, none⟩ (.int .i64 0)).setCell ⟨b, 4, none⟩ (.bool false)).setCell ⟨b, 5, none⟩ (.bool false)).setCell ⟨b, 6, none⟩ (.string ⟨#[]⟩)).setCell ⟨b, 7, none⟩ (.bool false)).setCell ⟨b, 8, none⟩ (.bool false)).setCell ⟨b, 9, none⟩ (.string ⟨#[]⟩)).setCell ⟨b, 10, none⟩ (.slice none 0 0)).setCell ⟨b, 11, none⟩ (.slice none 0 0)) = w3 at *
 refine hK.out _ _ (fun _ => ⟨HF3.out.cell 0, HF3.out.cell 1⟩) ?_
 clear hK K
 try simp only [Act.put, List.setIfInBounds_toArray, List.set_cons_zero, List.set_cons_succ]
 refine phAny_ready (rs := [6]) (by kernel_rfl) (by simp) ?_
 refine phAll.cons rfl (fun K hK => ?_) phAll.nil
 have li := HI3.out.lt; have i0 := HI3.out.cell 0; have fi0 := HI3.out.frozen 0
 simp only [List.getElem?_toArray, List.getElem?_cons_zero, List.getElem?_cons_succ] at i0
 go_simp
 clear li i0 fi0
 have HZ4 := LH (HZ3.out.far (p := ⟨b + 1, 0, none⟩) (by show b ≠ b + 1; omega) (.int .i64 p))
 have HI4 := LH (show Blk (w3.setCell ⟨b + 1, 0, none⟩ (.int .i64 p)) (b + 1) 3 #[.int .i64 p] from HI3.out.set_ 0 (.int .i64 p))
 have HN4 := LH (HN3.out.far (p := ⟨b + 1, 0, none⟩) (by show b + 1 + 1 ≠ b + 1; omega) (.int .i64 p))
 have HF4 := LH (HF3.out.far (p := ⟨b + 1, 0, none⟩) (by have := HLT.out; show w.heap.size ≠ b + 1; omega) (.int .i64 p))
 have HB4 := LH (HB3.out.setCell (p := ⟨b + 1, 0, none⟩) (by show b ≤ b + 1; omega) (.int .i64 p))
 clear HZ3 HI3 HN3 HF3 HB3
 generalize (w3.setCell ⟨b + 1, 0, none⟩ (.int .i64 p)) = w4 at *
 refine hK.out _ _ (fun _ => ⟨HF4.out.cell 0, HF4.out.cell 1⟩) ?_
 clear hK K
 try simp only [Act.put, List.setIfInBounds_toArray, List.set_cons_zero, List.set_cons_succ]
 refine phAny_ready (rs := [7]) (by kernel_rfl) (by simp) ?_
 refine phAll.cons rfl (fun K hK => ?_) phAll.nil
 have li := HN4.out.lt; have i0 := HN4.out.cell 0; have fi0 := HN4.out.frozen 0
 simp only [List.getElem?_toArray, List.getElem?_cons_zero, List.getElem?_cons_succ] at i0
 go_simp
 clear li i0 fi0
 have HZ5 := LH (HZ4.out.far (p := ⟨b + 1 + 1, 0, none⟩) (by show b ≠ b + 1 + 1; omega) (.iface 140 (.pointer (some a))))
 have HI5 := LH (HI4.out.far (p := ⟨b + 1 + 1, 0, none⟩) (by show b + 1 ≠ b + 1 + 1; omega) (.iface 140 (.pointer (some a))))
 have HN5 := LH (show Blk (w4.setCell ⟨b + 1 + 1, 0, none⟩ (.iface 140 (.pointer (some a)))) (b + 1 + 1) 24 #[(.iface 140 (.pointer (some a)))] from HN4.out.set_ 0 (.iface 140 (.pointer (some a))))
 have HB5 := LH (HB4.out.setCell (p := ⟨b + 1 + 1, 0, none⟩) (by show b ≤ b + 1 + 1; omega) (.iface 140 (.pointer (some a))))
 clear HZ4 HI4 HN4 HF4 HB4
 generalize (w4.setCell ⟨b + 1 + 1, 0, none⟩ (.iface 140 (.pointer (some a)))) = w5 at *
 refine hK.out _ _ (fun h => nomatch (show true = false from h)) ?_
 clear hK K
 try simp only [Act.put, List.setIfInBounds_toArray, List.set_cons_zero, List.set_cons_succ]
 refine phAny_done (by kernel_rfl) ?_ _
 have HR := LH (show CloRet b p (.iface 140 (.pointer (some a))) w w5 from ⟨HB5.out, HZ5.out, HI5.out, HN5.out⟩)
 clear HZ5 HI5 HN5 HB5
 go_wp2
 cases c₀
 simp_all [bodyPostS, results, Tryd.results34]
 exact HR.out
end Go.Proofs.YtcomdkejpaoneaaDoor
end
section
namespace Go.Proofs.YtcomdkejpaoneaaDoor
open Go.RowKit
set_option maxRecDepth 100000
set_option maxHeartbeats 4000000
set_option linter.unusedSimpArgs false
set_option linter.unusedVariables false
def NoRet (p : Int) (v : Value) (w : World) (e : Ending) (w' : World) : Prop := Below w.heap.size w w' ∧ e = .returned (.tuple #[.agg nv0, .int .i64 p, v])
theorem pparse_thrown (s : ByteArray) (w : World) (ea : List Addr) (ei : Nat) (p : Int) (hsc : ∀ W, Below w.heap.size w W → Calls Tryd.prog 35 #[.string s] W fun e w' => Below W.heap.size W w' ∧ e = .panicked [{ v := fltV p (errI ea ei), recovered := false }]) :
  Calls Tryd.prog 18 #[.string s] w (NoRet p (errI ea ei) w) := by
 have hmf : ∀ (fn : Fn) (first cap : Array Value) (w : World), (Instr.makeFunc fn first cap).run Tryd.prog w = .ok (.func fn first cap) w := fun _ _ _ _ => rfl
 have hbw : Below w.heap.size w (((w.alloc zO).alloc (.cells #[.int .i64 0] 3)).alloc (.cells #[.nilIface] 24)) :=
  (((Below.refl _ _).alloc (Nat.le_refl _) _).alloc (by rw [World.size_alloc]; omega) _).alloc (by rw [World.size_alloc, World.size_alloc]; omega) _
 have HB1 := LH hbw
 have HZ1 := LH (((Blk.new w 36 zA).alloc (.cells #[.int .i64 0] 3)).alloc (.cells #[.nilIface] 24))
 have HI1 := LH (show Blk (((w.alloc zO).alloc (.cells #[.int .i64 0] 3)).alloc (.cells #[.nilIface] 24)) (w.heap.size + 1) 3 #[.int .i64 0] from by have h := (Blk.new (w.alloc zO) 3 #[.int .i64 0]).alloc (.cells #[.nilIface] 24); rw [World.size_alloc] at h; exact h)
 have HN1 := LH (show Blk (((w.alloc zO).alloc (.cells #[.int .i64 0] 3)).alloc (.cells #[.nilIface] 24)) (w.heap.size + 1 + 1) 24 #[.nilIface] from by have h := Blk.new ((w.alloc zO).alloc (.cells #[.int .i64 0] 3)) 24 #[.nilIface]; rw [World.size_alloc, World.size_alloc] at h; exact h)
 have HW1 := LH (show (((w.alloc zO).alloc (.cells #[.int .i64 0] 3)).alloc (.cells #[.nilIface] 24)).heap.size = w.heap.size + 3 from by rw [World.size_alloc, World.size_alloc, World.size_alloc])
 have HSC := LH (hsc _ hbw)
 clear hbw hsc
 go_enter_defers Tryd.func18, Tryd.ntmps18
 go_wp2_with fail
 generalize ((w.alloc zO).alloc (.cells #[.int .i64 0] 3)).alloc (.cells #[.nilIface] 24) = w1 at *
 refine HSC.out.mono ?_
 rintro e w3 ⟨hb3, rfl⟩
 have HB3 := LH (HB1.out.trans (hb3.mono HB1.out.size))
 have HZ3 := LH (HZ1.out.belowW hb3); have HI3 := LH (HI1.out.belowW hb3); have HN3 := LH (HN1.out.belowW hb3)
 clear hb3
 go_wp2
 refine leaves_cons (f := 34) (args := #[.pointer (some ⟨w.heap.size, 0, none⟩), .pointer (some ⟨w.heap.size + 1, 0, none⟩), .pointer (some ⟨w.heap.size + 1 + 1, 0, none⟩)]) (by simp) (by simp [go_sem]) ?_
 refine (pclose_fault w.heap.size p ea ei [] w3 HZ3.out HI3.out HN3.out).mono ?_
 rintro e u' w'' ⟨rfl, rfl, hbc, hzz, hii, hnn⟩
 have HBF := LH (HB3.out.trans (hbc.mono (Nat.le_refl _)))
 unfold nv0 at hzz
 have z0 := hzz.cell 0; have z1 := hzz.cell 1; have z2 := hzz.cell 2; have z3 := hzz.cell 3; have z4 := hzz.cell 4; have z5 := hzz.cell 5; have z6 := hzz.cell 6; have z7 := hzz.cell 7; have z8 := hzz.cell 8; have z9 := hzz.cell 9; have z10 := hzz.cell 10; have z11 := hzz.cell 11
 have i0 := hii.cell 0; have n0 := hnn.cell 0
 simp only [List.getElem?_toArray, List.getElem?_cons_zero, List.getElem?_cons_succ] at z0 z1 z2 z3 z4 z5 z6 z7 z8 z9 z10 z11 i0 n0
 clear hzz hii hnn hbc
 simp [Leaves, settle, results, Tryd.results18, go_sem, z0, z1, z2, z3, z4, z5, z6, z7, z8, z9, z10, z11, i0, n0]
 exact ⟨HBF.out, rfl⟩
theorem parse_bad {s : ByteArray} {p : Nat} (hc : checkS s.data.toList = .inr p) (w : World) (ea : List Addr) (ei : Nat) (hs : s.size ≤ 10000000) (hE : ClsEnv w) (hv : ErrAt w 0 (errI ea ei)) :
  Calls Tryd.prog 18 #[.string s] w (NoRet p (errI ea ei) w) :=
 pparse_thrown s w ea ei p fun W hW => pscanned_bad s W ea ei hs (hE.belowB hE.2 hW) (hv.below hv.2 hW) p hc
theorem parse_deep {s : ByteArray} {n : Nat} (hc : checkS s.data.toList = .inl n) (hn : 64 < n) (w : World) (ea : List Addr) (ei ej : Nat) (hs : s.size ≤ 10000000) (hE : ClsEnv w) (hv : ErrAt w 0 (errI ea ei)) (hd : ErrAt w 16 (errI ea ej)) :
  Calls Tryd.prog 18 #[.string s] w (NoRet 0 (errI ea ej) w) :=
 pparse_thrown s w ea ej 0 fun W hW => pscanned_deep s W ea ei ej hs (hE.belowB hE.2 hW) (hv.below hv.2 hW) (hd.below hd.2 hW) n hc hn
end Go.Proofs.YtcomdkejpaoneaaDoor
end
section
namespace Go.Proofs.YtcomdkejpaoneaaDoor
set_option linter.unusedSimpArgs false
set_option linter.unusedVariables false
theorem patOk_cons {c : UInt8} {b : List UInt8} (h : c ≠ 92) (hb : patOk b) : patOk (c :: b) := by
 cases b with
 | nil => exact h
 | cons d r => rw [patOk, if_neg h]; exact hb
theorem patOk_esc {d : UInt8} {b : List UInt8} (hb : patOk b) : patOk (92 :: d :: b) := by
 rw [patOk, if_pos rfl]; exact hb
theorem cls_92 : cls 92 = 4 := by decide +kernel
theorem ne92 {c : UInt8} (h : cls c ≠ 4) : c ≠ 92 := fun e => h (by rw [e]; exact cls_92)
theorem pe_ok {d : UInt8} {b : List UInt8} (hb : patOk b) : patOk (pe d ++ b) ∧ (pe d).length ≤ 2 := by
 unfold pe
 split
 ·exact ⟨patOk_esc hb, by simp⟩
 ·rename_i h
  exact ⟨patOk_cons (ne92 (fun e => h (.inr e))) hb, by simp⟩
theorem runL_pat : ∀ (l : List UInt8) (r : Rn), runL l = some r → patOk r.pat ∧ r.pat.length ≤ r.len ∧ r.text.length ≤ r.len
 | [], r, h => by simp [runL] at h; subst h; exact ⟨trivial, by simp, by simp⟩
 | [c], r, h => by
  unfold runL at h
  split at h
  ·cases h; exact ⟨trivial, by simp, by simp⟩
  split at h
  ·rename_i h3
   cases h; exact ⟨patOk_cons (ne92 (by omega)) trivial, by simp, by simp⟩
  split at h
  ·cases h
  ·rename_i h4
   cases h; exact ⟨patOk_cons (ne92 h4) trivial, by simp, by simp⟩
 | c :: d :: t, r, h => by
  unfold runL at h
  split at h
  ·cases h; exact ⟨trivial, by simp, by simp⟩
  split at h
  ·rename_i h3
   obtain ⟨y, hy, rfl⟩ := Option.map_eq_some_iff.1 h
   obtain ⟨h5, h6, h7⟩ := runL_pat (d :: t) y hy
   refine ⟨patOk_cons (ne92 (by omega)) h5, ?_, ?_⟩ <;> (simp [Rn.add]; omega)
  split at h
  ·obtain ⟨y, hy, rfl⟩ := Option.map_eq_some_iff.1 h
   obtain ⟨h5, h6, h7⟩ := runL_pat t y hy
   obtain ⟨g1, g2⟩ := pe_ok (d := d) h5
   refine ⟨g1, ?_, ?_⟩ <;> (simp [Rn.add]; omega)
  ·rename_i h4
   obtain ⟨y, hy, rfl⟩ := Option.map_eq_some_iff.1 h
   obtain ⟨h5, h6, h7⟩ := runL_pat (d :: t) y hy
   refine ⟨patOk_cons (ne92 h4) h5, ?_, ?_⟩ <;> (simp [Rn.add]; omega)
theorem quotedL_txt : ∀ (l : List UInt8) (x : List UInt8 × Nat), quotedL l = some x → x.1.length ≤ x.2
 | [], x, h => by simp [quotedL] at h
 | [c], x, h => by
  unfold quotedL at h
  split at h
  ·cases h; simp
  ·cases h
 | c :: d :: t, x, h => by
  unfold quotedL at h
  split at h
  ·cases h; simp
  ·split at h
   ·obtain ⟨y, hy, rfl⟩ := Option.map_eq_some_iff.1 h
    have := quotedL_txt t y hy
    simp; omega
   ·obtain ⟨y, hy, rfl⟩ := Option.map_eq_some_iff.1 h
    have := quotedL_txt (d :: t) y hy
    simp; omega
theorem tok_ok {l : List UInt8} {k : Tk} (h : tokOf l = some k) : (k.kind = 2 → patOk k.text) ∧ k.text.length ≤ k.len := by
 cases l with
 | nil => simp [tokOf] at h
 | cons c t =>
  rw [tokOf] at h
  split at h
  ·injection h with h; rw [← h]
   exact ⟨fun _ => trivial, by simp⟩
  split at h
  ·obtain ⟨x, hx, rfl⟩ := Option.map_eq_some_iff.1 h
   have := quotedL_txt t x hx
   exact ⟨fun h => by simp at h, by simp; omega⟩
  have hnum : ∀ {a : Int} {z : List UInt8} {n : Nat} {k : Tk}, numTk a z n = some k → (k.kind = 2 → patOk k.text) ∧ k.text.length ≤ k.len := by
   intro a z n k hk
   unfold numTk at hk
   split at hk
   ·injection hk with hk; rw [← hk]; exact ⟨fun _ => trivial, by simp⟩
   ·cases hk
  split at h
  ·split at h <;> exact hnum h
  split at h
  ·split at h
   ·injection h with h; rw [← h]; exact ⟨fun _ => trivial, by simp⟩
   ·exact hnum h
  split at h
  ·exact hnum h
  unfold runTk at h
  obtain ⟨x, hx, rfl⟩ := Option.map_eq_some_iff.1 h
  obtain ⟨h5, h6, h7⟩ := runL_pat _ x hx
  split
  ·exact ⟨fun _ => h5, h6⟩
  ·refine ⟨fun h2 => ?_, ?_⟩
   ·have h2' : kwd ((c :: t).take x.len) = 2 := h2
    unfold kwd at h2'
    repeat' split at h2'
    all_goals omega
   ·show (if kwd ((c :: t).take x.len) = 1 then x.text else []).length ≤ x.len
    split
    ·exact h7
    ·simp
theorem scanF_ok {f : Nat} {l : List UInt8} {i : Nat} {la : List Lx} (h : scanF f l i = (la, none)) :
  ∀ x ∈ la, (x.kind = 2 → patOk x.text) ∧ x.text.length ≤ l.length := by
 induction f generalizing l i la with
 | zero => simp [scanF] at h
 | succ f ih =>
  cases l with
  | nil =>
   simp only [scanF, Prod.mk.injEq] at h
   rw [← h.1]
   intro x hx
   rw [List.mem_singleton] at hx
   subst hx
   exact ⟨fun h => by simp at h, by simp⟩
  | cons c t =>
   rw [scanF] at h
   split at h
   ·intro x hx
    have := ih h x hx
    exact ⟨this.1, Nat.le_trans this.2 (by simp)⟩
   ·rename_i hc
    split at h
    ·cases h
    ·rename_i k ht
     have hl := tok_len ht (fun d hd => by simp only [List.head?_cons, Option.some.injEq] at hd; rw [← hd]; exact hc)
     rcases hr : scanF f ((c :: t).drop k.len) (i + k.len) with ⟨u, _ | z⟩
     ·rw [hr] at h
      simp only [ahead, List.singleton_append, Prod.mk.injEq, and_true] at h
      rw [← h]
      intro x hx
      rw [List.mem_cons] at hx
      rcases hx with rfl | hx
      ·have := tok_ok ht
       exact ⟨this.1, Nat.le_trans this.2 hl.2⟩
      ·have := ih hr x hx
       refine ⟨this.1, Nat.le_trans this.2 ?_⟩
       rw [List.length_drop]; omega
     ·rw [hr] at h
      simp [ahead] at h
theorem scan_tkok {l : List UInt8} {la : List Lx} (h : scanL l = (la, none)) (hl : l.length ≤ 10000000) : TkOk (la.map Lx.lt) := by
 have hc := scanL_count l
 rw [h] at hc
 refine ⟨by rw [List.length_map]; simp only [] at hc; omega, fun t ht => ?_⟩
 obtain ⟨x, hx, rfl⟩ := List.mem_map.1 ht
 have := scanF_ok h x hx
 exact ⟨this.1, Nat.le_trans this.2 hl⟩
end Go.Proofs.YtcomdkejpaoneaaDoor
end
