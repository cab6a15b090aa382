/- Merged for a claim by shake.py: Up Uq Un Ya -/
import Derived.Test.YthcldpminmhgkaaDoorKxA
import Derived.Test.YthcldpminmhgkaaDoorKx14
import Derived.Test.YthcldpminmhgkaaDoorKx2
import Derived.Test.YthcldpminmhgkaaDoorKx20
import Derived.Test.YthcldpminmhgkaaDoorKx21
import Derived.Test.YthcldpminmhgkaaDoorKx5
import Derived.Test.YthcldpminmhgkaaDoorKx8
import Derived.Test.YthcldpminmhgkaaDoorKx9
set_option maxRecDepth 100000
set_option maxHeartbeats 4000000
set_option linter.unusedSimpArgs false
set_option linter.unusedVariables false
section
namespace Go.Proofs.YthcldpminmhgkaaDoor
open Go.RowKit
theorem flt_assert (v : Value) (W : World) : (Instr.typeAssert (.iface 81 v) 20 81 true).run Tryd.prog W = .ok (.tuple #[v, .bool true]) W := by
 simp [Instr.typeAssert, run_underlying (show Tryd.prog.underlying 81 = some (.struct (Tryd.prog.fieldsOf 81)) from by kernel_rfl), go_sem, Result.andThen]
def nv0 : Array Value := #[.int .i64 0, .string ⟨#[]⟩, .string ⟨#[]⟩, .int .i64 0, .bool false, .bool false, .string ⟨#[]⟩, .bool false, .bool false, .string ⟨#[]⟩, .slice none 0 0, .slice none 0 0]
def CloRet (b : Nat) (p : Int) (v : Value) (w w' : World) : Prop :=
 Below b w w' ∧ Blk w' b 27 nv0 ∧ Blk w' (b + 1) 3 #[.int .i64 p] ∧ Blk w' (b + 1 + 1) 35 #[v]
theorem pclose_fault (b : Nat) (p : Int) (ea : List Addr) (ei : Nat) (older : List PanicEntry) (w : World) (hz : Blk w b 27 nv0) (hi : Blk w (b + 1) 3 #[.int .i64 0]) (hn : Blk w (b + 1 + 1) 35 #[.nilIface]) :
  CallsD Tryd.prog 42 #[.pointer (some ⟨b, 0, none⟩), .pointer (some ⟨b + 1, 0, none⟩), .pointer (some ⟨b + 1 + 1, 0, none⟩)] (.panicking ({ v := fltV p (errI ea ei), recovered := false } :: older)) w fun e u' w' =>
   e = .returned (.tuple #[]) ∧ u' = .panicking ({ v := fltV p (errI ea ei), recovered := true } :: older) ∧ CloRet b p (errI ea ei) w w' := by
 have hta := flt_assert
 have he : errI ea ei = .iface 144 (.pointer (some (ea.getD ei ⟨0, 0, none⟩))) := rfl
 rw [he]
 generalize ea.getD ei ⟨0, 0, none⟩ = a at *
 clear he
 refine callsD_of_wpS Tryd.func42 rfl fun c₀ cs hu => ?_
 unfold fltV at hu ⊢
 apply wpS_seq
 apply wpS_region
 simp [wpOpsS, go_sem, recoverD, hu, Tryd.ntmps42, Exit.thenS]
 refine wpS_of_wp ?_
 have HB := LH (show Below b w (w.alloc (.cells #[.int .i64 p, .iface 144 (.pointer (some a))] 81)) from (Below.refl _ _).alloc (Nat.le_of_lt hz.lt) _)
 have HZ := LH (hz.alloc (.cells #[.int .i64 p, .iface 144 (.pointer (some a))] 81))
 have HI := LH (hi.alloc (.cells #[.int .i64 p, .iface 144 (.pointer (some a))] 81))
 have HN := LH (hn.alloc (.cells #[.int .i64 p, .iface 144 (.pointer (some a))] 81))
 have HF := LH (Blk.new w 81 #[.int .i64 p, .iface 144 (.pointer (some a))])
 have HLT := LH hn.lt
 clear hz hi hn
 go_wp2_with fail
 generalize w.alloc (.cells #[.int .i64 p, .iface 144 (.pointer (some a))] 81) = w1 at *
 have hS0 : w1.drew.cell? ⟨w.heap.size, 0, none⟩ = some (.int .i64 p) ∧ w1.drew.cell? ⟨w.heap.size, 1, none⟩ = some (.iface 144 (.pointer (some a))) := ⟨HF.out.cell 0, HF.out.cell 1⟩
 refine ph_region (fun W => W.cell? ⟨w.heap.size, 0, none⟩ = some (.int .i64 p) ∧ W.cell? ⟨w.heap.size, 1, none⟩ = some (.iface 144 (.pointer (some a)))) 7 (by kernel_rfl) ?_
 refine phAny_take (i := 1) (v := .pointer (some ⟨w.heap.size, 0, none⟩)) [6, 2] rfl (by kernel_rfl) (fun _ _ _ h => h) (Or.inl ⟨by rfl, fun W1 hS1 => by obtain ⟨s0, s1⟩ := hS1; clear hS0; go_simp⟩) hS0 ?_
 simp only [Act.put, List.setIfInBounds_toArray, List.set_cons_zero, List.set_cons_succ]
 refine phAny_take (i := 2) (v := .int .i64 p) [6] rfl (by kernel_rfl) (fun _ _ _ h => h) (Or.inl ⟨by rfl, fun W1 hS1 => by obtain ⟨s0, s1⟩ := hS1; clear hS0; go_simp⟩) hS0 ?_
 simp only [Act.put, List.setIfInBounds_toArray, List.set_cons_zero, List.set_cons_succ]
 refine phAny_take (i := 3) (v := .pointer (some ⟨w.heap.size, 1, none⟩)) [4] rfl (by kernel_rfl) (fun _ _ _ h => h) (Or.inl ⟨by rfl, fun W1 hS1 => by obtain ⟨s0, s1⟩ := hS1; clear hS0; go_simp⟩) hS0 ?_
 simp only [Act.put, List.setIfInBounds_toArray, List.set_cons_zero, List.set_cons_succ]
 refine phAny_take (i := 4) (v := .iface 144 (.pointer (some a))) [] rfl (by kernel_rfl) (fun _ _ _ h => h) (Or.inl ⟨by rfl, fun W1 hS1 => by obtain ⟨s0, s1⟩ := hS1; clear hS0; go_simp⟩) hS0 ?_
 simp only [Act.put, List.setIfInBounds_toArray, List.set_cons_zero, List.set_cons_succ]
 clear hS0
 have HZ2 := LH (show Blk w1.drew b 27 nv0 from HZ.out)
 have HI2 := LH (show Blk w1.drew (b + 1) 3 #[.int .i64 0] from HI.out)
 have HN2 := LH (show Blk w1.drew (b + 1 + 1) 35 #[.nilIface] from HN.out)
 have HF2 := LH (show Blk w1.drew w.heap.size 81 #[.int .i64 p, .iface 144 (.pointer (some a))] from HF.out)
 have HB2 := LH (show Below b w w1.drew from HB.out.drew)
 clear HZ HI HN HF HB
 generalize w1.drew = w2 at *
 have hS1 : w2.cell? ⟨w.heap.size, 0, none⟩ = some (.int .i64 p) ∧ w2.cell? ⟨w.heap.size, 1, none⟩ = some (.iface 144 (.pointer (some a))) := ⟨HF2.out.cell 0, HF2.out.cell 1⟩
 refine phAny_pure (i := 0) (v := .agg nv0) rfl (by kernel_rfl) (fun _ _ _ h => h) (Or.inl ⟨by rfl, fun W1 _ => by clear hS1; unfold nv0; go_simp⟩) (fun _ => hS1) ?_
 clear hS1
 unfold nv0
 try simp only [Act.put, List.setIfInBounds_toArray, List.set_cons_zero, List.set_cons_succ]
 refine phAny_ready (rs := [5]) (by kernel_rfl) (by simp) ?_
 refine phAll.cons rfl (fun K hK => ?_) phAll.nil
 have hzz := HZ2.out
 unfold nv0 at hzz
 have lz := hzz.lt
 have z0 := hzz.cell 0; have z1 := hzz.cell 1; have z2 := hzz.cell 2; have z3 := hzz.cell 3; have z4 := hzz.cell 4; have z5 := hzz.cell 5; have z6 := hzz.cell 6; have z7 := hzz.cell 7; have z8 := hzz.cell 8; have z9 := hzz.cell 9; have z10 := hzz.cell 10; have z11 := hzz.cell 11
 have fz0 := hzz.frozen 0; have fz1 := hzz.frozen 1; have fz2 := hzz.frozen 2; have fz3 := hzz.frozen 3; have fz4 := hzz.frozen 4; have fz5 := hzz.frozen 5; have fz6 := hzz.frozen 6; have fz7 := hzz.frozen 7; have fz8 := hzz.frozen 8; have fz9 := hzz.frozen 9; have fz10 := hzz.frozen 10; have fz11 := hzz.frozen 11
 simp only [List.getElem?_toArray, List.getElem?_cons_zero, List.getElem?_cons_succ] at z0 z1 z2 z3 z4 z5 z6 z7 z8 z9 z10 z11
 clear hzz
 go_simp
 clear z0 z1 z2 z3 z4 z5 z6 z7 z8 z9 z10 z11 fz0 fz1 fz2 fz3 fz4 fz5 fz6 fz7 fz8 fz9 fz10 fz11 lz
 have HZ3 := LH (show Blk ((((((((((((w2.setCell ⟨b, 0, none⟩ (.int .i64 0)).setCell ⟨b, 1, none⟩ (.string ⟨#[]⟩)).setCell ⟨b, 2, none⟩ (.string ⟨#[]⟩)).setCell ⟨b, 3, none⟩ (.int .i64 0)).setCell ⟨b, 4, none⟩ (.bool false)).setCell ⟨b, 5, none⟩ (.bool false)).setCell ⟨b, 6, none⟩ (.string ⟨#[]⟩)).setCell ⟨b, 7, none⟩ (.bool false)).setCell ⟨b, 8, none⟩ (.bool false)).setCell ⟨b, 9, none⟩ (.string ⟨#[]⟩)).setCell ⟨b, 10, none⟩ (.slice none 0 0)).setCell ⟨b, 11, none⟩ (.slice none 0 0)) b 27 nv0 from Blk.set12 (x := ⟨0, [], [], 0, bd0, bd0, ⟨none, 0, 0⟩, ⟨none, 0, 0⟩⟩) (y := ⟨0, [], [], 0, bd0, bd0, ⟨none, 0, 0⟩, ⟨none, 0, 0⟩⟩) HZ2.out)
 have HI3 := LH (show Blk ((((((((((((w2.setCell ⟨b, 0, none⟩ (.int .i64 0)).setCell ⟨b, 1, none⟩ (.string ⟨#[]⟩)).setCell ⟨b, 2, none⟩ (.string ⟨#[]⟩)).setCell ⟨b, 3, none⟩ (.int .i64 0)).setCell ⟨b, 4, none⟩ (.bool false)).setCell ⟨b, 5, none⟩ (.bool false)).setCell ⟨b, 6, none⟩ (.string ⟨#[]⟩)).setCell ⟨b, 7, none⟩ (.bool false)).setCell ⟨b, 8, none⟩ (.bool false)).setCell ⟨b, 9, none⟩ (.string ⟨#[]⟩)).setCell ⟨b, 10, none⟩ (.slice none 0 0)).setCell ⟨b, 11, none⟩ (.slice none 0 0)) (b + 1) 3 #[.int .i64 0] from ((((((((((((HI2.out.far (p := ⟨b, 0, none⟩) (by show b + 1 ≠ b; omega) (.int .i64 0)).far (p := ⟨b, 1, none⟩) (by show b + 1 ≠ b; omega) (.string ⟨#[]⟩)).far (p := ⟨b, 2, none⟩) (by show b + 1 ≠ b; omega) (.string ⟨#[]⟩)).far (p := ⟨b, 3, none⟩) (by show b + 1 ≠ b; omega) (.int .i64 0)).far (p := ⟨b, 4, none⟩) (by show b + 1 ≠ b; omega) (.bool false)).far (p := ⟨b, 5, none⟩) (by show b + 1 ≠ b; omega) (.bool false)).far (p := ⟨b, 6, none⟩) (by show b + 1 ≠ b; omega) (.string ⟨#[]⟩)).far (p := ⟨b, 7, none⟩) (by show b + 1 ≠ b; omega) (.bool false)).far (p := ⟨b, 8, none⟩) (by show b + 1 ≠ b; omega) (.bool false)).far (p := ⟨b, 9, none⟩) (by show b + 1 ≠ b; omega) (.string ⟨#[]⟩)).far (p := ⟨b, 10, none⟩) (by show b + 1 ≠ b; omega) (.slice none 0 0)).far (p := ⟨b, 11, none⟩) (by show b + 1 ≠ b; omega) (.slice none 0 0)))
 have HN3 := LH (show Blk ((((((((((((w2.setCell ⟨b, 0, none⟩ (.int .i64 0)).setCell ⟨b, 1, none⟩ (.string ⟨#[]⟩)).setCell ⟨b, 2, none⟩ (.string ⟨#[]⟩)).setCell ⟨b, 3, none⟩ (.int .i64 0)).setCell ⟨b, 4, none⟩ (.bool false)).setCell ⟨b, 5, none⟩ (.bool false)).setCell ⟨b, 6, none⟩ (.string ⟨#[]⟩)).setCell ⟨b, 7, none⟩ (.bool false)).setCell ⟨b, 8, none⟩ (.bool false)).setCell ⟨b, 9, none⟩ (.string ⟨#[]⟩)).setCell ⟨b, 10, none⟩ (.slice none 0 0)).setCell ⟨b, 11, none⟩ (.slice none 0 0)) (b + 1 + 1) 35 #[.nilIface] from ((((((((((((HN2.out.far (p := ⟨b, 0, none⟩) (by show b + 1 + 1 ≠ b; omega) (.int .i64 0)).far (p := ⟨b, 1, none⟩) (by show b + 1 + 1 ≠ b; omega) (.string ⟨#[]⟩)).far (p := ⟨b, 2, none⟩) (by show b + 1 + 1 ≠ b; omega) (.string ⟨#[]⟩)).far (p := ⟨b, 3, none⟩) (by show b + 1 + 1 ≠ b; omega) (.int .i64 0)).far (p := ⟨b, 4, none⟩) (by show b + 1 + 1 ≠ b; omega) (.bool false)).far (p := ⟨b, 5, none⟩) (by show b + 1 + 1 ≠ b; omega) (.bool false)).far (p := ⟨b, 6, none⟩) (by show b + 1 + 1 ≠ b; omega) (.string ⟨#[]⟩)).far (p := ⟨b, 7, none⟩) (by show b + 1 + 1 ≠ b; omega) (.bool false)).far (p := ⟨b, 8, none⟩) (by show b + 1 + 1 ≠ b; omega) (.bool false)).far (p := ⟨b, 9, none⟩) (by show b + 1 + 1 ≠ b; omega) (.string ⟨#[]⟩)).far (p := ⟨b, 10, none⟩) (by show b + 1 + 1 ≠ b; omega) (.slice none 0 0)).far (p := ⟨b, 11, none⟩) (by show b + 1 + 1 ≠ b; omega) (.slice none 0 0)))
 have HF3 := LH (show Blk ((((((((((((w2.setCell ⟨b, 0, none⟩ (.int .i64 0)).setCell ⟨b, 1, none⟩ (.string ⟨#[]⟩)).setCell ⟨b, 2, none⟩ (.string ⟨#[]⟩)).setCell ⟨b, 3, none⟩ (.int .i64 0)).setCell ⟨b, 4, none⟩ (.bool false)).setCell ⟨b, 5, none⟩ (.bool false)).setCell ⟨b, 6, none⟩ (.string ⟨#[]⟩)).setCell ⟨b, 7, none⟩ (.bool false)).setCell ⟨b, 8, none⟩ (.bool false)).setCell ⟨b, 9, none⟩ (.string ⟨#[]⟩)).setCell ⟨b, 10, none⟩ (.slice none 0 0)).setCell ⟨b, 11, none⟩ (.slice none 0 0)) w.heap.size 81 #[.int .i64 p, (.iface 144 (.pointer (some a)))] from ((((((((((((HF2.out.far (p := ⟨b, 0, none⟩) (by have := HLT.out; show w.heap.size ≠ b; omega) (.int .i64 0)).far (p := ⟨b, 1, none⟩) (by have := HLT.out; show w.heap.size ≠ b; omega) (.string ⟨#[]⟩)).far (p := ⟨b, 2, none⟩) (by have := HLT.out; show w.heap.size ≠ b; omega) (.string ⟨#[]⟩)).far (p := ⟨b, 3, none⟩) (by have := HLT.out; show w.heap.size ≠ b; omega) (.int .i64 0)).far (p := ⟨b, 4, none⟩) (by have := HLT.out; show w.heap.size ≠ b; omega) (.bool false)).far (p := ⟨b, 5, none⟩) (by have := HLT.out; show w.heap.size ≠ b; omega) (.bool false)).far (p := ⟨b, 6, none⟩) (by have := HLT.out; show w.heap.size ≠ b; omega) (.string ⟨#[]⟩)).far (p := ⟨b, 7, none⟩) (by have := HLT.out; show w.heap.size ≠ b; omega) (.bool false)).far (p := ⟨b, 8, none⟩) (by have := HLT.out; show w.heap.size ≠ b; omega) (.bool false)).far (p := ⟨b, 9, none⟩) (by have := HLT.out; show w.heap.size ≠ b; omega) (.string ⟨#[]⟩)).far (p := ⟨b, 10, none⟩) (by have := HLT.out; show w.heap.size ≠ b; omega) (.slice none 0 0)).far (p := ⟨b, 11, none⟩) (by have := HLT.out; show w.heap.size ≠ b; omega) (.slice none 0 0)))
 have HB3 := LH (show Below b w ((((((((((((w2.setCell ⟨b, 0, none⟩ (.int .i64 0)).setCell ⟨b, 1, none⟩ (.string ⟨#[]⟩)).setCell ⟨b, 2, none⟩ (.string ⟨#[]⟩)).setCell ⟨b, 3, none⟩ (.int .i64 0)).setCell ⟨b, 4, none⟩ (.bool false)).setCell ⟨b, 5, none⟩ (.bool false)).setCell ⟨b, 6, none⟩ (.string ⟨#[]⟩)).setCell ⟨b, 7, none⟩ (.bool false)).setCell ⟨b, 8, none⟩ (.bool false)).setCell ⟨b, 9, none⟩ (.string ⟨#[]⟩)).setCell ⟨b, 10, none⟩ (.slice none 0 0)).setCell ⟨b, 11, none⟩ (.slice none 0 0)) from ((((((((((((HB2.out.setCell (p := ⟨b, 0, none⟩) (Nat.le_refl _) (.int .i64 0)).setCell (p := ⟨b, 1, none⟩) (Nat.le_refl _) (.string ⟨#[]⟩)).setCell (p := ⟨b, 2, none⟩) (Nat.le_refl _) (.string ⟨#[]⟩)).setCell (p := ⟨b, 3, none⟩) (Nat.le_refl _) (.int .i64 0)).setCell (p := ⟨b, 4, none⟩) (Nat.le_refl _) (.bool false)).setCell (p := ⟨b, 5, none⟩) (Nat.le_refl _) (.bool false)).setCell (p := ⟨b, 6, none⟩) (Nat.le_refl _) (.string ⟨#[]⟩)).setCell (p := ⟨b, 7, none⟩) (Nat.le_refl _) (.bool false)).setCell (p := ⟨b, 8, none⟩) (Nat.le_refl _) (.bool false)).setCell (p := ⟨b, 9, none⟩) (Nat.le_refl _) (.string ⟨#[]⟩)).setCell (p := ⟨b, 10, none⟩) (Nat.le_refl _) (.slice none 0 0)).setCell (p := ⟨b, 11, none⟩) (Nat.le_refl _) (.slice none 0 0)))
 clear HZ2 HI2 HN2 HF2 HB2
 generalize ((((((((((((w2.setCell ⟨b, 0, none⟩ (.int .i64 0)).setCell ⟨b, 1, none⟩ (.string ⟨#[]⟩)).setCell ⟨b, 2, none⟩ (.string ⟨#[]⟩)).setCell ⟨b, 3, none⟩ (.int .i64 0)).setCell ⟨b, 4, none⟩ (.bool false)).setCell ⟨b, 5, none⟩ (.bool false)).setCell ⟨b, 6, none⟩ (.string ⟨#[]⟩)).setCell ⟨b, 7, none⟩ (.bool false)).setCell ⟨b, 8, none⟩ (.bool false)).setCell ⟨b, 9, none⟩ (.string ⟨#[]⟩)).setCell ⟨b, 10, none⟩ (.slice none 0 0)).setCell ⟨b, 11, none⟩ (.slice none 0 0)) = w3 at *
 refine hK.out _ _ (fun _ => ⟨HF3.out.cell 0, HF3.out.cell 1⟩) ?_
 clear hK K
 try simp only [Act.put, List.setIfInBounds_toArray, List.set_cons_zero, List.set_cons_succ]
 refine phAny_ready (rs := [6]) (by kernel_rfl) (by simp) ?_
 refine phAll.cons rfl (fun K hK => ?_) phAll.nil
 have li := HI3.out.lt; have i0 := HI3.out.cell 0; have fi0 := HI3.out.frozen 0
 simp only [List.getElem?_toArray, List.getElem?_cons_zero, List.getElem?_cons_succ] at i0
 go_simp
 clear li i0 fi0
 have HZ4 := LH (HZ3.out.far (p := ⟨b + 1, 0, none⟩) (by show b ≠ b + 1; omega) (.int .i64 p))
 have HI4 := LH (show Blk (w3.setCell ⟨b + 1, 0, none⟩ (.int .i64 p)) (b + 1) 3 #[.int .i64 p] from HI3.out.set_ 0 (.int .i64 p))
 have HN4 := LH (HN3.out.far (p := ⟨b + 1, 0, none⟩) (by show b + 1 + 1 ≠ b + 1; omega) (.int .i64 p))
 have HF4 := LH (HF3.out.far (p := ⟨b + 1, 0, none⟩) (by have := HLT.out; show w.heap.size ≠ b + 1; omega) (.int .i64 p))
 have HB4 := LH (HB3.out.setCell (p := ⟨b + 1, 0, none⟩) (by show b ≤ b + 1; omega) (.int .i64 p))
 clear HZ3 HI3 HN3 HF3 HB3
 generalize (w3.setCell ⟨b + 1, 0, none⟩ (.int .i64 p)) = w4 at *
 refine hK.out _ _ (fun _ => ⟨HF4.out.cell 0, HF4.out.cell 1⟩) ?_
 clear hK K
 try simp only [Act.put, List.setIfInBounds_toArray, List.set_cons_zero, List.set_cons_succ]
 refine phAny_ready (rs := [7]) (by kernel_rfl) (by simp) ?_
 refine phAll.cons rfl (fun K hK => ?_) phAll.nil
 have li := HN4.out.lt; have i0 := HN4.out.cell 0; have fi0 := HN4.out.frozen 0
 simp only [List.getElem?_toArray, List.getElem?_cons_zero, List.getElem?_cons_succ] at i0
 go_simp
 clear li i0 fi0
 have HZ5 := LH (HZ4.out.far (p := ⟨b + 1 + 1, 0, none⟩) (by show b ≠ b + 1 + 1; omega) (.iface 144 (.pointer (some a))))
 have HI5 := LH (HI4.out.far (p := ⟨b + 1 + 1, 0, none⟩) (by show b + 1 ≠ b + 1 + 1; omega) (.iface 144 (.pointer (some a))))
 have HN5 := LH (show Blk (w4.setCell ⟨b + 1 + 1, 0, none⟩ (.iface 144 (.pointer (some a)))) (b + 1 + 1) 35 #[(.iface 144 (.pointer (some a)))] from HN4.out.set_ 0 (.iface 144 (.pointer (some a))))
 have HB5 := LH (HB4.out.setCell (p := ⟨b + 1 + 1, 0, none⟩) (by show b ≤ b + 1 + 1; omega) (.iface 144 (.pointer (some a))))
 clear HZ4 HI4 HN4 HF4 HB4
 generalize (w4.setCell ⟨b + 1 + 1, 0, none⟩ (.iface 144 (.pointer (some a)))) = w5 at *
 refine hK.out _ _ (fun h => nomatch (show true = false from h)) ?_
 clear hK K
 try simp only [Act.put, List.setIfInBounds_toArray, List.set_cons_zero, List.set_cons_succ]
 refine phAny_done (by kernel_rfl) ?_ _
 have HR := LH (show CloRet b p (.iface 144 (.pointer (some a))) w w5 from ⟨HB5.out, HZ5.out, HI5.out, HN5.out⟩)
 clear HZ5 HI5 HN5 HB5
 go_wp2
 cases c₀
 simp_all [bodyPostS, results, Tryd.results42]
 exact HR.out
def NoRet (p : Int) (v : Value) (w : World) (e : Ending) (w' : World) : Prop := Below w.heap.size w w' ∧ e = .returned (.tuple #[.agg nv0, .int .i64 p, v])
theorem pparse_thrown (s : ByteArray) (w : World) (ea : List Addr) (ei : Nat) (p : Int) (hsc : ∀ W, Below w.heap.size w W → Calls Tryd.prog 43 #[.string s] W fun e w' => Below W.heap.size W w' ∧ e = .panicked [{ v := fltV p (errI ea ei), recovered := false }]) :
  Calls Tryd.prog 26 #[.string s] w (NoRet p (errI ea ei) w) := by
 have hmf : ∀ (fn : Fn) (first cap : Array Value) (w : World), (Instr.makeFunc fn first cap).run Tryd.prog w = .ok (.func fn first cap) w := fun _ _ _ _ => rfl
 have hbw : Below w.heap.size w (((w.alloc zO).alloc (.cells #[.int .i64 0] 3)).alloc (.cells #[.nilIface] 35)) :=
  (((Below.refl _ _).alloc (Nat.le_refl _) _).alloc (by rw [World.size_alloc]; omega) _).alloc (by rw [World.size_alloc, World.size_alloc]; omega) _
 have HB1 := LH hbw
 have HZ1 := LH (((Blk.new w 27 zA).alloc (.cells #[.int .i64 0] 3)).alloc (.cells #[.nilIface] 35))
 have HI1 := LH (show Blk (((w.alloc zO).alloc (.cells #[.int .i64 0] 3)).alloc (.cells #[.nilIface] 35)) (w.heap.size + 1) 3 #[.int .i64 0] from by have h := (Blk.new (w.alloc zO) 3 #[.int .i64 0]).alloc (.cells #[.nilIface] 35); rw [World.size_alloc] at h; exact h)
 have HN1 := LH (show Blk (((w.alloc zO).alloc (.cells #[.int .i64 0] 3)).alloc (.cells #[.nilIface] 35)) (w.heap.size + 1 + 1) 35 #[.nilIface] from by have h := Blk.new ((w.alloc zO).alloc (.cells #[.int .i64 0] 3)) 35 #[.nilIface]; rw [World.size_alloc, World.size_alloc] at h; exact h)
 have HW1 := LH (show (((w.alloc zO).alloc (.cells #[.int .i64 0] 3)).alloc (.cells #[.nilIface] 35)).heap.size = w.heap.size + 3 from by rw [World.size_alloc, World.size_alloc, World.size_alloc])
 have HSC := LH (hsc _ hbw)
 clear hbw hsc
 go_enter_defers Tryd.func26, Tryd.ntmps26
 go_wp2_with fail
 generalize ((w.alloc zO).alloc (.cells #[.int .i64 0] 3)).alloc (.cells #[.nilIface] 35) = w1 at *
 refine HSC.out.mono ?_
 rintro e w3 ⟨hb3, rfl⟩
 have HB3 := LH (HB1.out.trans (hb3.mono HB1.out.size))
 have HZ3 := LH (HZ1.out.belowW hb3); have HI3 := LH (HI1.out.belowW hb3); have HN3 := LH (HN1.out.belowW hb3)
 clear hb3
 go_wp2
 refine leaves_cons (f := 42) (args := #[.pointer (some ⟨w.heap.size, 0, none⟩), .pointer (some ⟨w.heap.size + 1, 0, none⟩), .pointer (some ⟨w.heap.size + 1 + 1, 0, none⟩)]) (by simp) (by simp [go_sem]) ?_
 refine (pclose_fault w.heap.size p ea ei [] w3 HZ3.out HI3.out HN3.out).mono ?_
 rintro e u' w'' ⟨rfl, rfl, hbc, hzz, hii, hnn⟩
 have HBF := LH (HB3.out.trans (hbc.mono (Nat.le_refl _)))
 unfold nv0 at hzz
 have z0 := hzz.cell 0; have z1 := hzz.cell 1; have z2 := hzz.cell 2; have z3 := hzz.cell 3; have z4 := hzz.cell 4; have z5 := hzz.cell 5; have z6 := hzz.cell 6; have z7 := hzz.cell 7; have z8 := hzz.cell 8; have z9 := hzz.cell 9; have z10 := hzz.cell 10; have z11 := hzz.cell 11
 have i0 := hii.cell 0; have n0 := hnn.cell 0
 simp only [List.getElem?_toArray, List.getElem?_cons_zero, List.getElem?_cons_succ] at z0 z1 z2 z3 z4 z5 z6 z7 z8 z9 z10 z11 i0 n0
 clear hzz hii hnn hbc
 simp [Leaves, settle, results, Tryd.results26, go_sem, z0, z1, z2, z3, z4, z5, z6, z7, z8, z9, z10, z11, i0, n0]
 exact ⟨HBF.out, rfl⟩
theorem parse_bad {s : ByteArray} {p : Nat} (hc : checkS s.data.toList = .inr p) (w : World) (ea : List Addr) (ei : Nat) (hs : s.size ≤ 900000000000) (hE : ClsEnv w) (hv : ErrAt w 1 (errI ea ei)) :
  Calls Tryd.prog 26 #[.string s] w (NoRet p (errI ea ei) w) :=
 pparse_thrown s w ea ei p fun W hW => pscanned_bad s W ea ei hs (hE.belowB hE.2 hW) (hv.below hv.2 hW) p hc
theorem parse_deep {s : ByteArray} {n : Nat} (hc : checkS s.data.toList = .inl n) (hn : 64 < n) (w : World) (ea : List Addr) (ei ej : Nat) (hs : s.size ≤ 900000000000) (hE : ClsEnv w) (hv : ErrAt w 1 (errI ea ei)) (hd : ErrAt w 18 (errI ea ej)) :
  Calls Tryd.prog 26 #[.string s] w (NoRet 0 (errI ea ej) w) :=
 pparse_thrown s w ea ej 0 fun W hW => pscanned_deep s W ea ei ej hs (hE.belowB hE.2 hW) (hv.below hv.2 hW) (hd.below hd.2 hW) n hc hn
end Go.Proofs.YthcldpminmhgkaaDoor
end
section
namespace Go.Proofs.YthcldpminmhgkaaDoor
theorem patOk_cons {c : UInt8} {b : List UInt8} (h : c ≠ 92) (hb : patOk b) : patOk (c :: b) := by
 cases b with
 | nil => exact h
 | cons d r => rw [patOk, if_neg h]; exact hb
theorem patOk_esc {d : UInt8} {b : List UInt8} (hb : patOk b) : patOk (92 :: d :: b) := by
 rw [patOk, if_pos rfl]; exact hb
theorem cls_92 : cls 92 = 4 := by decide +kernel
theorem ne92 {c : UInt8} (h : cls c ≠ 4) : c ≠ 92 := fun e => h (by rw [e]; exact cls_92)
theorem pe_ok {d : UInt8} {b : List UInt8} (hb : patOk b) : patOk (pe d ++ b) ∧ (pe d).length ≤ 2 := by
 unfold pe
 split
 ·exact ⟨patOk_esc hb, by simp⟩
 ·rename_i h
  exact ⟨patOk_cons (ne92 (fun e => h (.inr e))) hb, by simp⟩
theorem runL_pat : ∀ (l : List UInt8) (r : Rn), runL l = some r → patOk r.pat ∧ r.pat.length ≤ r.len ∧ r.text.length ≤ r.len
 | [], r, h => by simp [runL] at h; subst h; exact ⟨trivial, by simp, by simp⟩
 | [c], r, h => by
  unfold runL at h
  split at h
  ·cases h; exact ⟨trivial, by simp, by simp⟩
  split at h
  ·rename_i h3
   cases h; exact ⟨patOk_cons (ne92 (by omega)) trivial, by simp, by simp⟩
  split at h
  ·cases h
  ·rename_i h4
   cases h; exact ⟨patOk_cons (ne92 h4) trivial, by simp, by simp⟩
 | c :: d :: t, r, h => by
  unfold runL at h
  split at h
  ·cases h; exact ⟨trivial, by simp, by simp⟩
  split at h
  ·rename_i h3
   obtain ⟨y, hy, rfl⟩ := Option.map_eq_some_iff.1 h
   obtain ⟨h5, h6, h7⟩ := runL_pat (d :: t) y hy
   refine ⟨patOk_cons (ne92 (by omega)) h5, ?_, ?_⟩ <;> (simp [Rn.add]; omega)
  split at h
  ·obtain ⟨y, hy, rfl⟩ := Option.map_eq_some_iff.1 h
   obtain ⟨h5, h6, h7⟩ := runL_pat t y hy
   obtain ⟨g1, g2⟩ := pe_ok (d := d) h5
   refine ⟨g1, ?_, ?_⟩ <;> (simp [Rn.add]; omega)
  ·rename_i h4
   obtain ⟨y, hy, rfl⟩ := Option.map_eq_some_iff.1 h
   obtain ⟨h5, h6, h7⟩ := runL_pat (d :: t) y hy
   refine ⟨patOk_cons (ne92 h4) h5, ?_, ?_⟩ <;> (simp [Rn.add]; omega)
theorem quotedL_txt : ∀ (l : List UInt8) (x : List UInt8 × Nat), quotedL l = some x → x.1.length ≤ x.2
 | [], x, h => by simp [quotedL] at h
 | [c], x, h => by
  unfold quotedL at h
  split at h
  ·cases h; simp
  ·cases h
 | c :: d :: t, x, h => by
  unfold quotedL at h
  split at h
  ·cases h; simp
  ·split at h
   ·obtain ⟨y, hy, rfl⟩ := Option.map_eq_some_iff.1 h
    have := quotedL_txt t y hy
    simp; omega
   ·obtain ⟨y, hy, rfl⟩ := Option.map_eq_some_iff.1 h
    have := quotedL_txt (d :: t) y hy
    simp; omega
theorem tok_ok {l : List UInt8} {k : Tk} (h : tokOf l = some k) : (k.kind = 2 → patOk k.text) ∧ k.text.length ≤ k.len := by
 cases l with
 | nil => simp [tokOf] at h
 | cons c t =>
  rw [tokOf] at h
  split at h
  ·injection h with h; rw [← h]
   exact ⟨fun _ => trivial, by simp⟩
  split at h
  ·obtain ⟨x, hx, rfl⟩ := Option.map_eq_some_iff.1 h
   have := quotedL_txt t x hx
   exact ⟨fun h => by simp at h, by simp; omega⟩
  have hnum : ∀ {a : Int} {z : List UInt8} {n : Nat} {k : Tk}, numTk a z n = some k → (k.kind = 2 → patOk k.text) ∧ k.text.length ≤ k.len := by
   intro a z n k hk
   unfold numTk at hk
   split at hk
   ·injection hk with hk; rw [← hk]; exact ⟨fun _ => trivial, by simp⟩
   ·cases hk
  split at h
  ·split at h <;> exact hnum h
  split at h
  ·split at h
   ·injection h with h; rw [← h]; exact ⟨fun _ => trivial, by simp⟩
   ·exact hnum h
  split at h
  ·exact hnum h
  unfold runTk at h
  obtain ⟨x, hx, rfl⟩ := Option.map_eq_some_iff.1 h
  obtain ⟨h5, h6, h7⟩ := runL_pat _ x hx
  split
  ·exact ⟨fun _ => h5, h6⟩
  ·refine ⟨fun h2 => ?_, ?_⟩
   ·have h2' : kwd ((c :: t).take x.len) = 2 := h2
    unfold kwd at h2'
    repeat' split at h2'
    all_goals omega
   ·show (if kwd ((c :: t).take x.len) = 1 then x.text else []).length ≤ x.len
    split
    ·exact h7
    ·simp
theorem scanF_ok {f : Nat} {l : List UInt8} {i : Nat} {la : List Lx} (h : scanF f l i = (la, none)) :
  ∀ x ∈ la, (x.kind = 2 → patOk x.text) ∧ x.text.length ≤ l.length := by
 induction f generalizing l i la with
 | zero => simp [scanF] at h
 | succ f ih =>
  cases l with
  | nil =>
   simp only [scanF, Prod.mk.injEq] at h
   rw [← h.1]
   intro x hx
   rw [List.mem_singleton] at hx
   subst hx
   exact ⟨fun h => by simp at h, by simp⟩
  | cons c t =>
   rw [scanF] at h
   split at h
   ·intro x hx
    have := ih h x hx
    exact ⟨this.1, Nat.le_trans this.2 (by simp)⟩
   ·rename_i hc
    split at h
    ·cases h
    ·rename_i k ht
     have hl := tok_len ht (fun d hd => by simp only [List.head?_cons, Option.some.injEq] at hd; rw [← hd]; exact hc)
     rcases hr : scanF f ((c :: t).drop k.len) (i + k.len) with ⟨u, _ | z⟩
     ·rw [hr] at h
      simp only [ahead, List.singleton_append, Prod.mk.injEq, and_true] at h
      rw [← h]
      intro x hx
      rw [List.mem_cons] at hx
      rcases hx with rfl | hx
      ·have := tok_ok ht
       exact ⟨this.1, Nat.le_trans this.2 hl.2⟩
      ·have := ih hr x hx
       refine ⟨this.1, Nat.le_trans this.2 ?_⟩
       rw [List.length_drop]; omega
     ·rw [hr] at h
      simp [ahead] at h
theorem scan_tkok {l : List UInt8} {la : List Lx} (h : scanL l = (la, none)) (hl : l.length ≤ 900000000000) : TkOk (la.map Lx.lt) := by
 have hc := scanL_count l
 rw [h] at hc
 refine ⟨by rw [List.length_map]; simp only [] at hc; omega, fun t ht => ?_⟩
 obtain ⟨x, hx, rfl⟩ := List.mem_map.1 ht
 have := scanF_ok h x hx
 exact ⟨this.1, Nat.le_trans this.2 hl⟩
def stopB (z : UInt8) : Prop := (cls z = 1 ∨ cls z = 2) ∧ isDg z = false
theorem runY_stop {z : UInt8} (hz : stopB z) (b : List UInt8) : runL (z :: b) = some ⟨[], [], 0, 0⟩ := by
 cases b <;> (unfold runL; rw [if_pos hz.1])
theorem runY_stopApp {z : UInt8} (hz : stopB z) : ∀ (a b : List UInt8) (r : Rn), runL a = some r → runL (a ++ z :: b) = some r
 | [], b, r, h => by
  unfold runL at h; cases h
  exact runY_stop hz b
 | [c], b, r, h => by
  unfold runL at h
  rw [List.singleton_append, runL]
  split at h
  ·rename_i hc; cases h; rw [if_pos hc]
  ·rename_i hc
   rw [if_neg hc]
   split at h
   ·rename_i h3; cases h; rw [if_pos h3, runY_stop hz]; rfl
   ·rename_i h3
    rw [if_neg h3]
    split at h
    ·cases h
    ·rename_i h4; cases h; rw [if_neg h4, runY_stop hz]; rfl
 | c :: d :: t, b, r, h => by
  rw [runL] at h
  rw [List.cons_append, List.cons_append, runL]
  split at h
  ·rename_i hc; cases h; rw [if_pos hc]
  ·rename_i hc
   rw [if_neg hc]
   split at h
   ·rename_i h3
    obtain ⟨y, hy, rfl⟩ := Option.map_eq_some_iff.1 h
    have := runY_stopApp hz (d :: t) b y hy
    rw [List.cons_append] at this
    rw [if_pos h3, this]; rfl
   ·rename_i h3
    rw [if_neg h3]
    split at h
    ·rename_i h4
     obtain ⟨y, hy, rfl⟩ := Option.map_eq_some_iff.1 h
     rw [if_pos h4, runY_stopApp hz t b y hy]; rfl
    ·rename_i h4
     obtain ⟨y, hy, rfl⟩ := Option.map_eq_some_iff.1 h
     have := runY_stopApp hz (d :: t) b y hy
     rw [List.cons_append] at this
     rw [if_neg h4, this]; rfl
theorem digs_stopApp {z : UInt8} (hz : stopB z) (a b : List UInt8) : digs (a ++ z :: b) = digs a := by
 unfold digs
 induction a with
 | nil => rw [List.nil_append, List.takeWhile_cons, hz.2]; rfl
 | cons c a ih => rw [List.cons_append, List.takeWhile_cons, List.takeWhile_cons, ih]
theorem numTk_stopApp {z : UInt8} (hz : stopB z) (kind : Int) (a b : List UInt8) (m : Nat) : numTk kind (a ++ z :: b) m = numTk kind a m := by
 unfold numTk numOkB
 rw [digs_stopApp hz]
theorem tok_stopApp {z : UInt8} (hz : stopB z) {c : UInt8} {a b : List UInt8} {k : Tk} (h : tokOf (c :: a) = some k) : tokOf (c :: (a ++ z :: b)) = some k := by
 simp only [tokOf] at h ⊢
 split at h
 ·rename_i hs; rw [if_pos hs]; exact h
 ·rename_i hs
  rw [if_neg hs]
  split at h
  ·rename_i hc
   obtain ⟨y, hy, rfl⟩ := Option.map_eq_some_iff.1 h
   rw [if_pos hc, quotedL_app a _ y hy]; rfl
  ·rename_i hc
   rw [if_neg hc]
   split at h
   ·rename_i h94
    rw [if_pos h94]
    cases a with
    | nil =>
     have : numTk 18 [] 1 = none := by decide
     rw [if_neg (by simp)] at h
     rw [this] at h; cases h
    | cons d a =>
     simp only [List.cons_append, List.head?_cons, List.drop_succ_cons, List.drop_zero] at h ⊢
     rw [numTk_stopApp hz, ← List.cons_append, numTk_stopApp hz]
     exact h
   ·rename_i h94
    rw [if_neg h94]
    split at h
    ·rename_i h126
     rw [if_pos h126, digs_stopApp hz, numTk_stopApp hz]
     exact h
    ·rename_i h126
     rw [if_neg h126]
     split at h
     ·rename_i h64
      rw [if_pos h64, numTk_stopApp hz]; exact h
     ·rename_i h64
      rw [if_neg h64]
      unfold runTk at h ⊢
      obtain ⟨r, hr, rfl⟩ := Option.map_eq_some_iff.1 h
      have hlen := runL_len _ _ hr
      have := runY_stopApp hz (c :: a) b r hr
      rw [List.cons_append] at this
      rw [this]
      simp only [Option.map_some]
      rw [← List.cons_append, List.take_append_of_le_length hlen]
theorem scan_stopApp {z : UInt8} (hz : stopB z) : ∀ (f : Nat) (p q : List UInt8) (i f' : Nat) (la : List Lx), p.length < f → scanF f p i = (la, none) → p.length + q.length + 1 < f' →
  scanF f' (p ++ z :: q) i = ahead la.dropLast (scanF (q.length + 2) (z :: q) (i + p.length))
 | 0, p, q, i, f', la, h, _, _ => by omega
 | _, p, q, i, 0, la, _, _, h => by omega
 | f + 1, [], q, i, f' + 1, la, h, h2, h3 => by
  cases h2
  rw [List.nil_append, List.dropLast_singleton, ahead_nil _ (scanF_or _ _ _)]
  exact scanF_fuel _ _ _ _ (by simp only [List.length_nil, List.length_cons] at h3 ⊢; omega) (by simp only [List.length_cons]; omega)
 | f + 1, c :: t, q, i, f' + 1, la, h, h2, h3 => by
  simp only [List.length_cons] at h h3
  rw [scanF] at h2
  rw [List.cons_append, scanF]
  split at h2
  ·rename_i hc
   rw [if_pos hc, scan_stopApp hz f t q (i + 1) f' la (by omega) h2 (by omega), List.length_cons, show i + 1 + t.length = i + (t.length + 1) from by omega]
  ·rename_i hc
   rw [if_neg hc]
   split at h2
   ·cases h2
   ·rename_i k ht
    have hk := tok_len ht (fun d hd => by cases hd; exact hc)
    simp only [List.length_cons] at hk
    rw [tok_stopApp hz ht]
    rcases hr : scanF f ((c :: t).drop k.len) (i + k.len) with ⟨u, _ | z⟩
    ·rw [hr] at h2
     cases h2
     have hd : ((c :: t).drop k.len).length = t.length + 1 - k.len := by rw [List.length_drop, List.length_cons]
     have := scan_stopApp hz f _ q (i + k.len) f' u (by omega) hr (by omega)
     simp only []
     rw [← List.cons_append, List.drop_append_of_le_length (by rw [List.length_cons]; omega), this, ahead_ahead]
     simp only [List.singleton_append]
     rw [List.dropLast_cons_of_ne_nil (scanF_ne _ _ _ _ hr), hd, List.length_cons,
      show i + k.len + (t.length + 1 - k.len) = i + (t.length + 1) from by omega]
    ·rw [hr] at h2; cases h2
theorem scanL_stopApp {z : UInt8} (hz : stopB z) {p q : List UInt8} {la : List Lx} (h : scanL p = (la, none)) : scanL (p ++ z :: q) = ahead la.dropLast (upAll p.length (scanL (z :: q))) := by
 unfold scanL at h ⊢
 rw [scan_stopApp hz _ p q 0 _ la (by omega) h (by rw [List.length_append, List.length_cons]; omega), ← scanF_up, List.length_cons]
theorem scanL_single {c : UInt8} (h : singleK c ≠ 0) (t : List UInt8) : scanL (c :: t) = ahead [⟨singleK c, [], 0, 0, 1⟩] (upAll 1 (scanL t)) := by
 have hc : cls c ≠ 1 := by
  have := all_bytes' (p := fun c => decide (singleK c ≠ 0 → cls c ≠ 1)) (by decide +kernel) c
  exact of_decide_eq_true this h
 unfold scanL
 rw [List.length_cons, scanF, if_neg hc, ← scanF_up, tokOf, if_pos h]
 rfl
def lk (x : Lt) : Int × List UInt8 × Int := (x.kind, x.text, x.n)
def lkX (x : Lx) : Int × List UInt8 × Int := (x.kind, x.text, x.n)
theorem lkX_up (d : Nat) (l : List Lx) : (l.map (Lx.up d)).map lkX = l.map lkX := by rw [List.map_map]; rfl
theorem lk_lt (l : List Lx) : (l.map Lx.lt).map lk = l.map lkX := by rw [List.map_map]; rfl
def Toks (l : List UInt8) (T : List Lt) : Prop := ∃ (la : List Lx) (e : Lx), scanL l = (la ++ [e], none) ∧ e.kind = 0 ∧ la.map lkX = T.map lk
theorem Toks.nil : Toks [] [] := ⟨[], _, scanL_nil', rfl, rfl⟩
 where scanL_nil' : scanL [] = ([] ++ [⟨0, [], 0, 0, 0⟩], none) := rfl
theorem Toks.app {z : UInt8} (hz : stopB z) {p q : List UInt8} {A B : List Lt} (h : Toks p A) (h2 : Toks (z :: q) B) : Toks (p ++ z :: q) (A ++ B) := by
 obtain ⟨la, e, hs, he, hl⟩ := h
 obtain ⟨lb, e2, hs2, he2, hl2⟩ := h2
 refine ⟨la ++ lb.map (Lx.up p.length), e2.up p.length, ?_, he2, ?_⟩
 ·rw [scanL_stopApp hz hs, hs2, List.dropLast_concat]
  simp [upAll, ahead]
 ·rw [List.map_append, List.map_append, hl, lkX_up, hl2]
theorem Toks.blank {z : UInt8} (hz : cls z = 1) {q : List UInt8} {B : List Lt} (h : Toks q B) : Toks (z :: q) B := by
 obtain ⟨la, e, hs, he, hl⟩ := h
 refine ⟨la.map (Lx.up 1), e.up 1, ?_, he, by rw [lkX_up, hl]⟩
 have : scanL (z :: q) = upAll 1 (scanL q) := by
  unfold scanL
  rw [List.length_cons, scanF, if_pos hz, ← scanF_up]
 rw [this, hs]; simp [upAll]
theorem Toks.single {c : UInt8} {k : Int} (hk : singleK c = k) (h0 : k ≠ 0) {q : List UInt8} {B : List Lt} (h : Toks q B) : Toks (c :: q) (⟨k, [], 0, 0, 0⟩ :: B) := by
 obtain ⟨la, e, hs, he, hl⟩ := h
 refine ⟨⟨k, [], 0, 0, 1⟩ :: la.map (Lx.up 1), e.up 1, ?_, he, ?_⟩
 ·rw [scanL_single (by rw [hk]; exact h0), hs, hk]; simp [upAll, ahead]
 ·rw [List.map_cons, List.map_cons, lkX_up, hl]; rfl
theorem Toks.one {l : List UInt8} {x e : Lx} (h : scanL l = ([x, e], none)) (he : e.kind = 0) : Toks l [⟨x.kind, x.text, x.n, 0, 0⟩] := ⟨[x], e, h, he, rfl⟩
theorem lk_split {A1 A2 B : List Lt} (h : B.map lk = (A1 ++ A2).map lk) : ∃ B1 B2, B = B1 ++ B2 ∧ B1.map lk = A1.map lk ∧ B2.map lk = A2.map lk := by
 rw [List.map_append, List.map_eq_append_iff] at h
 exact h
theorem lk_head {a : Lt} {A B : List Lt} (h : B.map lk = (a :: A).map lk) : ∃ b B', B = b :: B' ∧ b.kind = a.kind ∧ b.text = a.text ∧ b.n = a.n ∧ B'.map lk = A.map lk := by
 rw [List.map_cons, List.map_eq_cons_iff] at h
 obtain ⟨b, B', e, hb, hB⟩ := h
 unfold Go.Proofs.YthcldpminmhgkaaDoor.lk at hb
 simp only [Prod.mk.injEq] at hb
 exact ⟨b, B', e, hb.1, hb.2.1, hb.2.2, hB⟩
theorem lk_none {B : List Lt} (h : B.map lk = ([] : List Lt).map lk) : B = [] := by simpa using h
theorem starT_lk {a b : Lt} (h : b.kind = a.kind) (h2 : b.text = a.text) : starT b = starT a := by unfold starT; rw [h, h2]
theorem sideT_lk {a b : Lt} (h : b.kind = a.kind) (h2 : b.text = a.text) : sideT b = sideT a := by unfold sideT; rw [starT_lk h h2, h]
theorem sideN_lk {a b : Lt} (h : b.kind = a.kind) (h2 : b.text = a.text) (i : Bool) : sideN b i = sideN a i := by unfold sideN; rw [h, h2]
theorem D.lk {p : Pt} {A : List Lt} {n : Nat} {v : Vl} (h : D p A n v) : ∀ B : List Lt, B.map lk = A.map lk → D p B n v := by
 induction h with
 | word ht =>
  intro B hB
  obtain ⟨b, B', rfl, h1, h2, h3, h4⟩ := lk_head hB
  obtain rfl := lk_none h4
  rw [← h2]; exact .word (h1.trans ht)
 | edits ht hu hn =>
  intro B hB
  obtain ⟨b, B', rfl, h1, h2, h3, h4⟩ := lk_head hB
  obtain ⟨c, B', rfl, g1, g2, g3, g4⟩ := lk_head h4
  obtain rfl := lk_none g4
  rw [← h2, ← g3]; exact .edits (h1.trans ht) (g1.trans hu) (by rw [g3]; exact hn)
 | pat ht =>
  intro B hB
  obtain ⟨b, B', rfl, h1, h2, h3, h4⟩ := lk_head hB
  obtain rfl := lk_none h4
  rw [← h2]; exact .pat (h1.trans ht)
 | quo ht =>
  intro B hB
  obtain ⟨b, B', rfl, h1, h2, h3, h4⟩ := lk_head hB
  obtain rfl := lk_none h4
  rw [← h2]; exact .quo (h1.trans ht)
 | slop ht hu hn =>
  intro B hB
  obtain ⟨b, B', rfl, h1, h2, h3, h4⟩ := lk_head hB
  obtain ⟨c, B', rfl, g1, g2, g3, g4⟩ := lk_head h4
  obtain rfl := lk_none g4
  rw [← h2, ← g3]; exact .slop (h1.trans ht) (g1.trans hu) (by rw [g3]; exact hn)
 | span ha hb hc hd he =>
  intro B hB
  obtain ⟨a1, B', rfl, p1, p2, p3, p4⟩ := lk_head hB
  obtain ⟨a2, B', rfl, q1, q2, q3, q4⟩ := lk_head p4
  obtain ⟨a3, B', rfl, r1, r2, r3, r4⟩ := lk_head q4
  obtain ⟨a4, B', rfl, s1, s2, s3, s4⟩ := lk_head r4
  obtain ⟨a5, B', rfl, t1, t2, t3, t4⟩ := lk_head s4
  obtain rfl := lk_none t4
  rw [← p1, ← t1, ← sideN_lk q1 q2, ← sideN_lk s1 s2]
  exact .span (by rw [p1]; exact ha) (by rw [sideT_lk q1 q2]; exact hb) (by rw [r1]; exact hc) (by rw [sideT_lk s1 s2]; exact hd) (by rw [t1]; exact he)
 | group ho _ hc ih =>
  intro B hB
  obtain ⟨o1, B', rfl, h1, h2, h3, h4⟩ := lk_head hB
  obtain ⟨B1, B2, rfl, g1, g2⟩ := lk_split h4
  obtain ⟨c1, B', rfl, k1, k2, k3, k4⟩ := lk_head g2
  obtain rfl := lk_none k4
  exact .group (h1.trans ho) (ih B1 g1) (k1.trans hc)
 | least ho _ hc hl ih =>
  intro B hB
  obtain ⟨o1, B', rfl, h1, h2, h3, h4⟩ := lk_head hB
  obtain ⟨B1, B2, rfl, g1, g2⟩ := lk_split h4
  obtain ⟨c1, B', rfl, k1, k2, k3, k4⟩ := lk_head g2
  obtain ⟨l1, B', rfl, m1, m2, m3, m4⟩ := lk_head k4
  obtain rfl := lk_none m4
  rw [← m3]
  exact .least (h1.trans ho) (ih B1 g1) (k1.trans hc) (m1.trans hl)
 | leafB _ ih => exact fun B hB => .leafB (ih B hB)
 | groupB _ ih => exact fun B hB => .groupB (ih B hB)
 | bodyA _ ih => exact fun B hB => .bodyA (ih B hB)
 | field hw hc _ ih =>
  intro B hB
  obtain ⟨w1, B', rfl, h1, h2, h3, h4⟩ := lk_head hB
  obtain ⟨c1, B', rfl, g1, g2, g3, g4⟩ := lk_head h4
  rw [← h2]
  exact .field (h1.trans hw) (g1.trans hc) (ih _ g4)
 | all hs hc ht =>
  intro B hB
  obtain ⟨w1, B', rfl, h1, h2, h3, h4⟩ := lk_head hB
  obtain ⟨c1, B', rfl, g1, g2, g3, g4⟩ := lk_head h4
  obtain ⟨t1, B', rfl, k1, k2, k3, k4⟩ := lk_head g4
  obtain rfl := lk_none k4
  exact .all (by rw [starT_lk h1 h2]; exact hs) (g1.trans hc) (by rw [starT_lk k1 k2]; exact ht)
 | atomP _ ih => exact fun B hB => .atomP (ih B hB)
 | sfx _ hb ih =>
  intro B hB
  obtain ⟨B1, B2, rfl, g1, g2⟩ := lk_split hB
  obtain ⟨c1, B', rfl, k1, k2, k3, k4⟩ := lk_head g2
  obtain rfl := lk_none k4
  rw [← k1, ← k3]
  exact .sfx (ih B1 g1) (by rw [k1]; exact hb)
 | pieceU _ ih => exact fun B hB => .pieceU (ih B hB)
 | not ht _ ih =>
  intro B hB
  obtain ⟨w1, B', rfl, h1, h2, h3, h4⟩ := lk_head hB
  exact .not (h1.trans ht) (ih _ h4)
 | maxU _ ih => exact fun B hB => .maxU (ih B hB)
 | bar _ hb _ ih1 ih2 =>
  intro B hB
  obtain ⟨B1, B2, rfl, g1, g2⟩ := lk_split hB
  obtain ⟨c1, B', rfl, k1, k2, k3, k4⟩ := lk_head g2
  exact .bar (ih1 B1 g1) (k1.trans hb) (ih2 _ k4)
 | andM _ ih => exact fun B hB => .andM (ih B hB)
 | and _ hb _ ih1 ih2 =>
  intro B hB
  obtain ⟨B1, B2, rfl, g1, g2⟩ := lk_split hB
  obtain ⟨c1, B', rfl, k1, k2, k3, k4⟩ := lk_head g2
  exact .and (ih1 B1 g1) (k1.trans hb) (ih2 _ k4)
 | orA _ ih => exact fun B hB => .orA (ih B hB)
 | or _ hb _ ih1 ih2 =>
  intro B hB
  obtain ⟨B1, B2, rfl, g1, g2⟩ := lk_split hB
  obtain ⟨c1, B', rfl, k1, k2, k3, k4⟩ := lk_head g2
  exact .or (ih1 B1 g1) (k1.trans hb) (ih2 _ k4)
 | clauseO _ ih => exact fun B hB => .clauseO (ih B hB)
 | sign hs _ ih =>
  intro B hB
  obtain ⟨w1, B', rfl, h1, h2, h3, h4⟩ := lk_head hB
  rw [← h1]
  exact .sign (by rw [h1]; exact hs) (ih _ h4)
 | one _ ih => exact fun B hB => .one (ih B hB)
 | more _ _ ih1 ih2 =>
  intro B hB
  obtain ⟨B1, B2, rfl, g1, g2⟩ := lk_split hB
  exact .more (ih1 B1 g1) (ih2 B2 g2)
end Go.Proofs.YthcldpminmhgkaaDoor
end
