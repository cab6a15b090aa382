/- Merged for a claim by shake.py: Um Uo Up -/
import Derived.Test.YthcldpminmhgkaaDoorKbA
import Derived.Defers
import Derived.Recover
import Derived.Test.YthcldpminmhgkaaDoorKb13
import Derived.Test.YthcldpminmhgkaaDoorKb2
import Derived.Test.YthcldpminmhgkaaDoorKb21
import Derived.Test.YthcldpminmhgkaaDoorKb9
set_option maxRecDepth 100000
set_option maxHeartbeats 4000000
set_option linter.unusedSimpArgs false
set_option linter.unusedVariables false
section
namespace Go.Proofs.YthcldpminmhgkaaDoor
open Go.RowKit
theorem pclose_idle (a0 a1 a2 : Value) (w : World) :
  CallsD Tryd.prog 42 #[a0, a1, a2] .returning w fun e u' w' => e = .returned (.tuple #[]) ∧ u' = .returning ∧ w' = w := by
 refine callsD_of_wpS Tryd.func42 rfl fun c₀ cs hu => ?_
 apply wpS_seq
 apply wpS_region
 simp [wpOpsS, go_sem, recoverD, hu, Tryd.ntmps42, Exit.thenS]
 refine wpS_of_wp ?_
 go_wp2
 cases c₀
 simp_all [bodyPostS, results, Tryd.results42]
theorem pscanned_ok (s : ByteArray) (w : World) (ea : List Addr) (ei : Nat) (hs : s.size ≤ 10000000) (hE : ClsEnv w) (hv : ErrAt w 1 (errI ea ei)) (la : List Lx) (n : Nat) (hr : scanL s.data.toList = (la, none)) (hc : checkS s.data.toList = .inl n) (hn : n ≤ 64) :
  Calls Tryd.prog 43 #[.string s] w fun e w' => Below w.heap.size w w' ∧ ∃ sl, e = .returned sl ∧ OwnL ltS w' w.heap.size sl (la.map Lx.lt) := by
 have hck := scheck_any s w ea ei hs hE hv
 rw [hc] at hck
 have HCK := LH hck
 have HSC := LH (fun (W : World) (hW : Below w.heap.size w W) => Scan_any s W (errI ea ei) hs (hE.belowB hE.2 hW) (hv.below hv.2 hW))
 have HR := LH hr
 have e64 : decide (64 < n) = false := by simp; omega
 clear hck hr hc hE hv
 go_enter Tryd.func43, Tryd.ntmps43
 go_wp2_with fail
 refine HCK.out.mono ?_
 rintro e w2 ⟨hb2, rfl⟩
 simp only []
 have HB2 := LH hb2
 clear hb2
 go_wp2_with fail
 refine (HSC.out w2 HB2.out).mono ?_
 rintro e w3 ⟨hb3, hm⟩
 rw [HR.out] at hm
 obtain ⟨sl, rfl, ho⟩ := hm
 have HB3 := LH (HB2.out.trans (hb3.mono HB2.out.size))
 have HO3 := LH (show OwnL ltS w3 w.heap.size sl (la.map Lx.lt) from ho.lt.more HB2.out.size)
 clear hb3 ho
 go_wp2
 go_ret
 exact ⟨HB3.out, _, rfl, HO3.out⟩
def ParRet (t : Nd) (w : World) (e : Ending) (w' : World) : Prop :=
 Below w.heap.size w w' ∧ ∃ x : NV, e = .returned (.tuple #[x.val, .int .i64 0, .nilIface]) ∧ NdR w' (rng w.heap.size w'.heap.size) x t
theorem pparse_ok (s : ByteArray) (w : World) (ea : List Addr) (ei : Nat) (hs : s.size ≤ 10000000) (hE : ClsEnv w) (hv : ErrAt w 1 (errI ea ei)) (la : List Lx) (n : Nat) (hr : scanL s.data.toList = (la, none)) (hc : checkS s.data.toList = .inl n) (hn : n ≤ 64)
  (hT : TkOk (la.map Lx.lt)) (A : List Lt) (e0 : Lt) (m : Nat) (v : Vl) (hA : la.map Lx.lt = A ++ [e0]) (he : e0.kind = 0) (hD : D .list A m v) :
  Calls Tryd.prog 26 #[.string s] w (ParRet (treeN (v [])) w) := by
 have hmf : ∀ (fn : Fn) (first cap : Array Value) (w : World), (Instr.makeFunc fn first cap).run Tryd.prog w = .ok (.func fn first cap) w := fun _ _ _ _ => rfl
 have hbw : Below w.heap.size w (((w.alloc zO).alloc (.cells #[.int .i64 0] 3)).alloc (.cells #[.nilIface] 35)) :=
  (((Below.refl _ _).alloc (Nat.le_refl _) _).alloc (by rw [World.size_alloc]; omega) _).alloc (by rw [World.size_alloc, World.size_alloc]; omega) _
 have HB1 := LH hbw
 have HZ1 := LH (((Blk.new w 27 zA).alloc (.cells #[.int .i64 0] 3)).alloc (.cells #[.nilIface] 35))
 have HI1 := LH (show Blk (((w.alloc zO).alloc (.cells #[.int .i64 0] 3)).alloc (.cells #[.nilIface] 35)) (w.heap.size + 1) 3 #[.int .i64 0] from by have h := (Blk.new (w.alloc zO) 3 #[.int .i64 0]).alloc (.cells #[.nilIface] 35); rw [World.size_alloc] at h; exact h)
 have HN1 := LH (show Blk (((w.alloc zO).alloc (.cells #[.int .i64 0] 3)).alloc (.cells #[.nilIface] 35)) (w.heap.size + 1 + 1) 35 #[.nilIface] from by have h := Blk.new ((w.alloc zO).alloc (.cells #[.int .i64 0] 3)) 35 #[.nilIface]; rw [World.size_alloc, World.size_alloc] at h; exact h)
 have HW1 := LH (show (((w.alloc zO).alloc (.cells #[.int .i64 0] 3)).alloc (.cells #[.nilIface] 35)).heap.size = w.heap.size + 3 from by rw [World.size_alloc, World.size_alloc, World.size_alloc])
 have HSC := LH (pscanned_ok s (((w.alloc zO).alloc (.cells #[.int .i64 0] 3)).alloc (.cells #[.nilIface] 35)) ea ei hs (hE.belowB hE.2 hbw) (hv.below hv.2 hbw) la n hr hc hn)
 have HT := LH hT; have HA := LH hA; have HD := LH hD; have HE0 := LH he
 clear hbw hr hc hT hA hD he hE hv
 go_enter_defers Tryd.func26, Tryd.ntmps26
 go_wp2_with fail
 generalize ((w.alloc zO).alloc (.cells #[.int .i64 0] 3)).alloc (.cells #[.nilIface] 35) = w1 at *
 refine HSC.out.mono ?_
 rintro e w3 ⟨hb3, sl, rfl, ho⟩
 obtain ⟨RA, rc, rfl, -, -⟩ := ho.form
 have HB3 := LH (HB1.out.trans (hb3.mono HB1.out.size))
 have HZ3 := LH (HZ1.out.belowW hb3); have HI3 := LH (HI1.out.belowW hb3); have HN3 := LH (HN1.out.belowW hb3)
 have HW3 := LH (show w.heap.size + 3 ≤ w3.heap.size from by have h1 := HW1.out; have h2 := hb3.size; omega)
 have HP4 := LH (show PsAt (w3.alloc (.cells #[.slice RA (la.map Lx.lt).length rc, .int .i64 0] 85)) w3.heap.size RA rc (la.map Lx.lt) 0 from ⟨Blk.new w3 _ _, (RdL.of_own ho).alloc (Nat.le_refl _) _⟩)
 clear hb3 ho
 rw [List.length_map] at HP4 ⊢
 have HB4 := LH (show Below w.heap.size w (w3.alloc (.cells #[.slice RA la.length rc, .int .i64 0] 85)) from HB3.out.alloc HB3.out.size _)
 have HZ4 := LH (HZ3.out.alloc (.cells #[.slice RA la.length rc, .int .i64 0] 85)); have HI4 := LH (HI3.out.alloc (.cells #[.slice RA la.length rc, .int .i64 0] 85)); have HN4 := LH (HN3.out.alloc (.cells #[.slice RA la.length rc, .int .i64 0] 85))
 have HPL := LH (show Calls Tryd.prog 45 #[.pointer (some ⟨w3.heap.size, 0, none⟩), .string ⟨#[]⟩] (w3.alloc (.cells #[.slice RA la.length rc, .int .i64 0] 85)) (LsRet w3.heap.size RA rc (la.map Lx.lt) (0 + A.length) (v []) (w3.alloc (.cells #[.slice RA la.length rc, .int .i64 0] 85))) from
  parts_ok HT.out (A.length + 1) A m v HD.out (Nat.lt_succ_self _) _ 0 [] [e0] (by rw [List.drop_zero]; exact HA.out) ⟨e0, [], rfl, .inl HE0.out⟩ HP4.out)
 have HS4 := LH (show (w3.alloc (.cells #[.slice RA la.length rc, .int .i64 0] 85)).heap.size = w3.heap.size + 1 from World.size_alloc _ _)
 go_wp2_with fail
 generalize w3.alloc (.cells #[.slice RA la.length rc, .int .i64 0] 85) = w4 at *
 refine HPL.out.mono ?_
 rintro e w5 ⟨hb5, hp5, ⟨ska, skn, skc⟩, ⟨soa, son, soc⟩, nl, rfl, hk5, ho5, hn5⟩
 have HB5 := LH (show Below w.heap.size w w5 from HB4.out.trans (hb5.below.mono HB3.out.size))
 have HZ5 := LH (HZ4.out.pb hb5 (by have := HW3.out; omega)); have HI5 := LH (HI4.out.pb hb5 (by have := HW3.out; omega)); have HN5 := LH (HN4.out.pb hb5 (by have := HW3.out; omega))
 have HTR := LH (ptree_any w5 (rng w4.heap.size w5.heap.size) ⟨ska, skn, skc⟩ ⟨soa, son, soc⟩ nl (v []) hk5 ho5 hn5 (fun b h => h.2))
 clear hb5 hp5 hk5 ho5 hn5
 go_wp2_with fail
 refine HTR.out.mono ?_
 rintro e w6 ⟨hb6, x, rfl, hx⟩
 obtain ⟨kd, fl, tx, xn, ⟨l1, l2, l3⟩, ⟨r1, r2, r3⟩, ⟨oa, on, oc⟩, ⟨ka, kn, kc⟩⟩ := x
 unfold NV.val
 simp only []
 have HB6 := LH (HB5.out.trans (hb6.mono HB5.out.size))
 have HX6 := LH hx
 have HF6 := LH (fun (b : Nat) (h : rng w4.heap.size w5.heap.size b) => (show w.heap.size + 2 < b ∧ b < w6.heap.size from ⟨by have h1 := HW3.out; have h2 := HS4.out; have := h.1; omega, Nat.lt_of_lt_of_le h.2 hb6.size⟩))
 have hzz := HZ5.out.belowW hb6
 have hii := HI5.out.belowW hb6
 have hnn := HN5.out.belowW hb6
 clear hb6 hx
 have z0 := hzz.cell 0; have z1 := hzz.cell 1; have z2 := hzz.cell 2; have z3 := hzz.cell 3; have z4 := hzz.cell 4; have z5 := hzz.cell 5; have z6 := hzz.cell 6; have z7 := hzz.cell 7; have z8 := hzz.cell 8; have z9 := hzz.cell 9; have z10 := hzz.cell 10; have z11 := hzz.cell 11
 have fz0 := hzz.frozen 0; have fz1 := hzz.frozen 1; have fz2 := hzz.frozen 2; have fz3 := hzz.frozen 3; have fz4 := hzz.frozen 4; have fz5 := hzz.frozen 5; have fz6 := hzz.frozen 6; have fz7 := hzz.frozen 7; have fz8 := hzz.frozen 8; have fz9 := hzz.frozen 9; have fz10 := hzz.frozen 10; have fz11 := hzz.frozen 11
 have i0 := hii.cell 0; have fi0 := hii.frozen 0; have n0 := hnn.cell 0; have fn0 := hnn.frozen 0
 have lz := hzz.lt; have li := hii.lt; have ln := hnn.lt
 simp only [List.getElem?_toArray, List.getElem?_cons_zero, List.getElem?_cons_succ] at z0 z1 z2 z3 z4 z5 z6 z7 z8 z9 z10 z11 i0 n0
 have HZ6 := LH hzz; have HI6 := LH hii; have HN6 := LH hnn
 clear hzz hii hnn
 go_wp2
 clear z0 z1 z2 z3 z4 z5 z6 z7 z8 z9 z10 z11 fz0 fz1 fz2 fz3 fz4 fz5 fz6 fz7 fz8 fz9 fz10 fz11 i0 fi0 n0 fn0 lz li ln
 have HZF := LH (show Blk ((((((((((((((w6.setCell ⟨w.heap.size, 0, none⟩ (.int .i64 kd)).setCell ⟨w.heap.size, 1, none⟩ (.string (str fl))).setCell ⟨w.heap.size, 2, none⟩ (.string (str tx))).setCell ⟨w.heap.size, 3, none⟩ (.int .i64 xn)).setCell ⟨w.heap.size, 4, none⟩ (.bool l1)).setCell ⟨w.heap.size, 5, none⟩ (.bool l2)).setCell ⟨w.heap.size, 6, none⟩ (.string (str l3))).setCell ⟨w.heap.size, 7, none⟩ (.bool r1)).setCell ⟨w.heap.size, 8, none⟩ (.bool r2)).setCell ⟨w.heap.size, 9, none⟩ (.string (str r3))).setCell ⟨w.heap.size, 10, none⟩ (.slice oa on oc)).setCell ⟨w.heap.size, 11, none⟩ (.slice ka kn kc)).setCell ⟨w.heap.size + 1, 0, none⟩ (.int .i64 0)).setCell ⟨w.heap.size + 1 + 1, 0, none⟩ .nilIface) w.heap.size 27 (NV.cells ⟨kd, fl, tx, xn, ⟨l1, l2, l3⟩, ⟨r1, r2, r3⟩, ⟨oa, on, oc⟩, ⟨ka, kn, kc⟩⟩).toArray from ((((Blk.set12 (x := ⟨0, [], [], 0, bd0, bd0, ⟨none, 0, 0⟩, ⟨none, 0, 0⟩⟩) (y := ⟨kd, fl, tx, xn, ⟨l1, l2, l3⟩, ⟨r1, r2, r3⟩, ⟨oa, on, oc⟩, ⟨ka, kn, kc⟩⟩) HZ6.out).far (p := ⟨w.heap.size + 1, 0, none⟩) (by show w.heap.size ≠ w.heap.size + 1; omega) _)).far (p := ⟨w.heap.size + 1 + 1, 0, none⟩) (by show w.heap.size ≠ w.heap.size + 1 + 1; omega) _))
 have HIF := LH (show Blk ((((((((((((((w6.setCell ⟨w.heap.size, 0, none⟩ (.int .i64 kd)).setCell ⟨w.heap.size, 1, none⟩ (.string (str fl))).setCell ⟨w.heap.size, 2, none⟩ (.string (str tx))).setCell ⟨w.heap.size, 3, none⟩ (.int .i64 xn)).setCell ⟨w.heap.size, 4, none⟩ (.bool l1)).setCell ⟨w.heap.size, 5, none⟩ (.bool l2)).setCell ⟨w.heap.size, 6, none⟩ (.string (str l3))).setCell ⟨w.heap.size, 7, none⟩ (.bool r1)).setCell ⟨w.heap.size, 8, none⟩ (.bool r2)).setCell ⟨w.heap.size, 9, none⟩ (.string (str r3))).setCell ⟨w.heap.size, 10, none⟩ (.slice oa on oc)).setCell ⟨w.heap.size, 11, none⟩ (.slice ka kn kc)).setCell ⟨w.heap.size + 1, 0, none⟩ (.int .i64 0)).setCell ⟨w.heap.size + 1 + 1, 0, none⟩ .nilIface) (w.heap.size + 1) 3 #[.int .i64 0] from ((HI6.out.off12 (z := w.heap.size) (y := ⟨kd, fl, tx, xn, ⟨l1, l2, l3⟩, ⟨r1, r2, r3⟩, ⟨oa, on, oc⟩, ⟨ka, kn, kc⟩⟩) (by omega)).set_ 0 (.int .i64 0)).far (p := ⟨w.heap.size + 1 + 1, 0, none⟩) (by show w.heap.size + 1 ≠ w.heap.size + 1 + 1; omega) _)
 have HNF := LH (show Blk ((((((((((((((w6.setCell ⟨w.heap.size, 0, none⟩ (.int .i64 kd)).setCell ⟨w.heap.size, 1, none⟩ (.string (str fl))).setCell ⟨w.heap.size, 2, none⟩ (.string (str tx))).setCell ⟨w.heap.size, 3, none⟩ (.int .i64 xn)).setCell ⟨w.heap.size, 4, none⟩ (.bool l1)).setCell ⟨w.heap.size, 5, none⟩ (.bool l2)).setCell ⟨w.heap.size, 6, none⟩ (.string (str l3))).setCell ⟨w.heap.size, 7, none⟩ (.bool r1)).setCell ⟨w.heap.size, 8, none⟩ (.bool r2)).setCell ⟨w.heap.size, 9, none⟩ (.string (str r3))).setCell ⟨w.heap.size, 10, none⟩ (.slice oa on oc)).setCell ⟨w.heap.size, 11, none⟩ (.slice ka kn kc)).setCell ⟨w.heap.size + 1, 0, none⟩ (.int .i64 0)).setCell ⟨w.heap.size + 1 + 1, 0, none⟩ .nilIface) (w.heap.size + 1 + 1) 35 #[.nilIface] from (((HN6.out.off12 (z := w.heap.size) (y := ⟨kd, fl, tx, xn, ⟨l1, l2, l3⟩, ⟨r1, r2, r3⟩, ⟨oa, on, oc⟩, ⟨ka, kn, kc⟩⟩) (by omega)).far (p := ⟨w.heap.size + 1, 0, none⟩) (by show w.heap.size + 1 + 1 ≠ w.heap.size + 1; omega) _).set_ 0 .nilIface))
 have HXF := LH (show NdR ((((((((((((((w6.setCell ⟨w.heap.size, 0, none⟩ (.int .i64 kd)).setCell ⟨w.heap.size, 1, none⟩ (.string (str fl))).setCell ⟨w.heap.size, 2, none⟩ (.string (str tx))).setCell ⟨w.heap.size, 3, none⟩ (.int .i64 xn)).setCell ⟨w.heap.size, 4, none⟩ (.bool l1)).setCell ⟨w.heap.size, 5, none⟩ (.bool l2)).setCell ⟨w.heap.size, 6, none⟩ (.string (str l3))).setCell ⟨w.heap.size, 7, none⟩ (.bool r1)).setCell ⟨w.heap.size, 8, none⟩ (.bool r2)).setCell ⟨w.heap.size, 9, none⟩ (.string (str r3))).setCell ⟨w.heap.size, 10, none⟩ (.slice oa on oc)).setCell ⟨w.heap.size, 11, none⟩ (.slice ka kn kc)).setCell ⟨w.heap.size + 1, 0, none⟩ (.int .i64 0)).setCell ⟨w.heap.size + 1 + 1, 0, none⟩ .nilIface) (rng w4.heap.size w5.heap.size) ⟨kd, fl, tx, xn, ⟨l1, l2, l3⟩, ⟨r1, r2, r3⟩, ⟨oa, on, oc⟩, ⟨ka, kn, kc⟩⟩ (treeN (v [])) from (HX6.out.set12 (z := w.heap.size) (y := ⟨kd, fl, tx, xn, ⟨l1, l2, l3⟩, ⟨r1, r2, r3⟩, ⟨oa, on, oc⟩, ⟨ka, kn, kc⟩⟩) (fun b h e => by have := (HF6.out b h).1; omega)).keep fun p hp _ => by
  have h := (HF6.out _ hp).1
  exact (World.cell?_of_block ((Below.heap_setCell _ ⟨w.heap.size + 1 + 1, 0, none⟩ _ p.block (by show p.block ≠ w.heap.size + 1 + 1; omega)).trans (Below.heap_setCell _ ⟨w.heap.size + 1, 0, none⟩ _ p.block (by show p.block ≠ w.heap.size + 1; omega)))))
 have hset : ∀ (W : World) (p : Addr) (u : Value), Below w.heap.size w W → w.heap.size ≤ p.block → Below w.heap.size w (W.setCell p u) := fun W p u h hp => h.setCell hp u
 have HBF := LH (show Below w.heap.size w ((((((((((((((w6.setCell ⟨w.heap.size, 0, none⟩ (.int .i64 kd)).setCell ⟨w.heap.size, 1, none⟩ (.string (str fl))).setCell ⟨w.heap.size, 2, none⟩ (.string (str tx))).setCell ⟨w.heap.size, 3, none⟩ (.int .i64 xn)).setCell ⟨w.heap.size, 4, none⟩ (.bool l1)).setCell ⟨w.heap.size, 5, none⟩ (.bool l2)).setCell ⟨w.heap.size, 6, none⟩ (.string (str l3))).setCell ⟨w.heap.size, 7, none⟩ (.bool r1)).setCell ⟨w.heap.size, 8, none⟩ (.bool r2)).setCell ⟨w.heap.size, 9, none⟩ (.string (str r3))).setCell ⟨w.heap.size, 10, none⟩ (.slice oa on oc)).setCell ⟨w.heap.size, 11, none⟩ (.slice ka kn kc)).setCell ⟨w.heap.size + 1, 0, none⟩ (.int .i64 0)).setCell ⟨w.heap.size + 1 + 1, 0, none⟩ .nilIface) from by
  repeat (first | with_reducible exact HB6.out | with_reducible refine hset _ _ _ ?_ (by first | exact Nat.le_refl _ | (show w.heap.size ≤ w.heap.size + 1; omega) | (show w.heap.size ≤ w.heap.size + 1 + 1; omega))))
 have HSF := LH (show ((((((((((((((w6.setCell ⟨w.heap.size, 0, none⟩ (.int .i64 kd)).setCell ⟨w.heap.size, 1, none⟩ (.string (str fl))).setCell ⟨w.heap.size, 2, none⟩ (.string (str tx))).setCell ⟨w.heap.size, 3, none⟩ (.int .i64 xn)).setCell ⟨w.heap.size, 4, none⟩ (.bool l1)).setCell ⟨w.heap.size, 5, none⟩ (.bool l2)).setCell ⟨w.heap.size, 6, none⟩ (.string (str l3))).setCell ⟨w.heap.size, 7, none⟩ (.bool r1)).setCell ⟨w.heap.size, 8, none⟩ (.bool r2)).setCell ⟨w.heap.size, 9, none⟩ (.string (str r3))).setCell ⟨w.heap.size, 10, none⟩ (.slice oa on oc)).setCell ⟨w.heap.size, 11, none⟩ (.slice ka kn kc)).setCell ⟨w.heap.size + 1, 0, none⟩ (.int .i64 0)).setCell ⟨w.heap.size + 1 + 1, 0, none⟩ .nilIface).heap.size = w6.heap.size from by simp only [set_size])
 clear hset
 generalize ((((((((((((((w6.setCell ⟨w.heap.size, 0, none⟩ (.int .i64 kd)).setCell ⟨w.heap.size, 1, none⟩ (.string (str fl))).setCell ⟨w.heap.size, 2, none⟩ (.string (str tx))).setCell ⟨w.heap.size, 3, none⟩ (.int .i64 xn)).setCell ⟨w.heap.size, 4, none⟩ (.bool l1)).setCell ⟨w.heap.size, 5, none⟩ (.bool l2)).setCell ⟨w.heap.size, 6, none⟩ (.string (str l3))).setCell ⟨w.heap.size, 7, none⟩ (.bool r1)).setCell ⟨w.heap.size, 8, none⟩ (.bool r2)).setCell ⟨w.heap.size, 9, none⟩ (.string (str r3))).setCell ⟨w.heap.size, 10, none⟩ (.slice oa on oc)).setCell ⟨w.heap.size, 11, none⟩ (.slice ka kn kc)).setCell ⟨w.heap.size + 1, 0, none⟩ (.int .i64 0)).setCell ⟨w.heap.size + 1 + 1, 0, none⟩ .nilIface) = wf at *
 refine leaves_cons (f := 42) (args := #[.pointer (some ⟨w.heap.size, 0, none⟩), .pointer (some ⟨w.heap.size + 1, 0, none⟩), .pointer (some ⟨w.heap.size + 1 + 1, 0, none⟩)]) (by simp) (by simp [go_sem]) ?_
 refine (pclose_idle _ _ _ wf).mono ?_
 rintro e u' w'' ⟨rfl, rfl, rfl⟩
 have hzz := HZF.out
 have z0 := hzz.cell 0; have z1 := hzz.cell 1; have z2 := hzz.cell 2; have z3 := hzz.cell 3; have z4 := hzz.cell 4; have z5 := hzz.cell 5; have z6 := hzz.cell 6; have z7 := hzz.cell 7; have z8 := hzz.cell 8; have z9 := hzz.cell 9; have z10 := hzz.cell 10; have z11 := hzz.cell 11
 have i0 := HIF.out.cell 0; have n0 := HNF.out.cell 0
 unfold NV.cells at z0 z1 z2 z3 z4 z5 z6 z7 z8 z9 z10 z11
 simp only [List.getElem?_toArray, List.getElem?_cons_zero, List.getElem?_cons_succ] at z0 z1 z2 z3 z4 z5 z6 z7 z8 z9 z10 z11 i0 n0
 clear hzz
 simp [Leaves, settle, results, Tryd.results26, go_sem, z0, z1, z2, z3, z4, z5, z6, z7, z8, z9, z10, z11, i0, n0]
 exact ⟨HBF.out, ⟨kd, fl, tx, xn, ⟨l1, l2, l3⟩, ⟨r1, r2, r3⟩, ⟨oa, on, oc⟩, ⟨ka, kn, kc⟩⟩, rfl, HXF.out.mono fun b h => ⟨by have := (HF6.out b h).1; omega, by rw [HSF.out]; exact (HF6.out b h).2⟩⟩
def fltV (p : Int) (v : Value) : Value := .iface 81 (.agg #[.int .i64 p, v])
theorem pscanned_deep (s : ByteArray) (w : World) (ea : List Addr) (ei ej : Nat) (hs : s.size ≤ 10000000) (hE : ClsEnv w) (hv : ErrAt w 1 (errI ea ei)) (hd : ErrAt w 18 (errI ea ej)) (n : Nat) (hc : checkS s.data.toList = .inl n) (hn : 64 < n) :
  Calls Tryd.prog 43 #[.string s] w fun e w' => Below w.heap.size w w' ∧ e = .panicked [{ v := fltV 0 (errI ea ej), recovered := false }] := by
 have hck := scheck_any s w ea ei hs hE hv
 rw [hc] at hck
 have HCK := LH hck
 have HD := LH (fun (W : World) (hW : Below w.heap.size w W) => hd.below hd.2 hW)
 have he : errI ea ej = .iface 144 (.pointer (some (ea.getD ej ⟨0, 0, none⟩))) := rfl
 rw [he] at HD ⊢
 generalize ea.getD ej ⟨0, 0, none⟩ = a at *
 have e64 : decide (64 < n) = true := by simp; omega
 have e64' : decide ((64 : Int) < (n : Int)) = true := by simp; omega
 clear hck hc hE hv hd he
 go_enter Tryd.func43, Tryd.ntmps43
 go_wp2_with fail
 refine HCK.out.mono ?_
 rintro e w2 ⟨hb2, rfl⟩
 simp only []
 have HB2 := LH hb2
 have hg := (HD.out w2 hb2).1
 have hg2 := (HD.out w2 hb2).2
 clear hb2
 go_wp2
 first | exact ⟨HB2.out, rfl⟩ | (simp [bodyPost]; exact HB2.out) | (simp [bodyPost, fltV]; exact HB2.out)
theorem flt_assert (v : Value) (W : World) : (Instr.typeAssert (.iface 81 v) 20 81 true).run Tryd.prog W = .ok (.tuple #[v, .bool true]) W := by
 simp [Instr.typeAssert, run_underlying (show Tryd.prog.underlying 81 = some (.struct (Tryd.prog.fieldsOf 81)) from by kernel_rfl), go_sem, Result.andThen]
def nv0 : Array Value := #[.int .i64 0, .string ⟨#[]⟩, .string ⟨#[]⟩, .int .i64 0, .bool false, .bool false, .string ⟨#[]⟩, .bool false, .bool false, .string ⟨#[]⟩, .slice none 0 0, .slice none 0 0]
def CloRet (b : Nat) (p : Int) (v : Value) (w w' : World) : Prop :=
 Below b w w' ∧ Blk w' b 27 nv0 ∧ Blk w' (b + 1) 3 #[.int .i64 p] ∧ Blk w' (b + 1 + 1) 35 #[v]
theorem pclose_fault (b : Nat) (p : Int) (ea : List Addr) (ei : Nat) (older : List PanicEntry) (w : World) (hz : Blk w b 27 nv0) (hi : Blk w (b + 1) 3 #[.int .i64 0]) (hn : Blk w (b + 1 + 1) 35 #[.nilIface]) :
  CallsD Tryd.prog 42 #[.pointer (some ⟨b, 0, none⟩), .pointer (some ⟨b + 1, 0, none⟩), .pointer (some ⟨b + 1 + 1, 0, none⟩)] (.panicking ({ v := fltV p (errI ea ei), recovered := false } :: older)) w fun e u' w' =>
   e = .returned (.tuple #[]) ∧ u' = .panicking ({ v := fltV p (errI ea ei), recovered := true } :: older) ∧ CloRet b p (errI ea ei) w w' := by
 have hta := flt_assert
 have he : errI ea ei = .iface 144 (.pointer (some (ea.getD ei ⟨0, 0, none⟩))) := rfl
 rw [he]
 generalize ea.getD ei ⟨0, 0, none⟩ = a at *
 clear he
 refine callsD_of_wpS Tryd.func42 rfl fun c₀ cs hu => ?_
 unfold fltV at hu ⊢
 apply wpS_seq
 apply wpS_region
 simp [wpOpsS, go_sem, recoverD, hu, Tryd.ntmps42, Exit.thenS]
 refine wpS_of_wp ?_
 have HB := LH (show Below b w (w.alloc (.cells #[.int .i64 p, .iface 144 (.pointer (some a))] 81)) from (Below.refl _ _).alloc (Nat.le_of_lt hz.lt) _)
 have HZ := LH (hz.alloc (.cells #[.int .i64 p, .iface 144 (.pointer (some a))] 81))
 have HI := LH (hi.alloc (.cells #[.int .i64 p, .iface 144 (.pointer (some a))] 81))
 have HN := LH (hn.alloc (.cells #[.int .i64 p, .iface 144 (.pointer (some a))] 81))
 have HF := LH (Blk.new w 81 #[.int .i64 p, .iface 144 (.pointer (some a))])
 have HLT := LH hn.lt
 clear hz hi hn
 go_wp2_with fail
 generalize w.alloc (.cells #[.int .i64 p, .iface 144 (.pointer (some a))] 81) = w1 at *
 have hS0 : w1.drew.cell? ⟨w.heap.size, 0, none⟩ = some (.int .i64 p) ∧ w1.drew.cell? ⟨w.heap.size, 1, none⟩ = some (.iface 144 (.pointer (some a))) := ⟨HF.out.cell 0, HF.out.cell 1⟩
 refine ph_region (fun W => W.cell? ⟨w.heap.size, 0, none⟩ = some (.int .i64 p) ∧ W.cell? ⟨w.heap.size, 1, none⟩ = some (.iface 144 (.pointer (some a)))) 7 (by kernel_rfl) ?_
 refine phAny_take (i := 1) (v := .pointer (some ⟨w.heap.size, 0, none⟩)) [6, 2] rfl (by kernel_rfl) (fun _ _ _ h => h) (Or.inl ⟨by rfl, fun W1 hS1 => by obtain ⟨s0, s1⟩ := hS1; clear hS0; go_simp⟩) hS0 ?_
 simp only [Act.put, List.setIfInBounds_toArray, List.set_cons_zero, List.set_cons_succ]
 refine phAny_take (i := 2) (v := .int .i64 p) [6] rfl (by kernel_rfl) (fun _ _ _ h => h) (Or.inl ⟨by rfl, fun W1 hS1 => by obtain ⟨s0, s1⟩ := hS1; clear hS0; go_simp⟩) hS0 ?_
 simp only [Act.put, List.setIfInBounds_toArray, List.set_cons_zero, List.set_cons_succ]
 refine phAny_take (i := 3) (v := .pointer (some ⟨w.heap.size, 1, none⟩)) [4] rfl (by kernel_rfl) (fun _ _ _ h => h) (Or.inl ⟨by rfl, fun W1 hS1 => by obtain ⟨s0, s1⟩ := hS1; clear hS0; go_simp⟩) hS0 ?_
 simp only [Act.put, List.setIfInBounds_toArray, List.set_cons_zero, List.set_cons_succ]
 refine phAny_take (i := 4) (v := .iface 144 (.pointer (some a))) [] rfl (by kernel_rfl) (fun _ _ _ h => h) (Or.inl ⟨by rfl, fun W1 hS1 => by obtain ⟨s0, s1⟩ := hS1; clear hS0; go_simp⟩) hS0 ?_
 simp only [Act.put, List.setIfInBounds_toArray, List.set_cons_zero, List.set_cons_succ]
 clear hS0
 have HZ2 := LH (show Blk w1.drew b 27 nv0 from HZ.out)
 have HI2 := LH (show Blk w1.drew (b + 1) 3 #[.int .i64 0] from HI.out)
 have HN2 := LH (show Blk w1.drew (b + 1 + 1) 35 #[.nilIface] from HN.out)
 have HF2 := LH (show Blk w1.drew w.heap.size 81 #[.int .i64 p, .iface 144 (.pointer (some a))] from HF.out)
 have HB2 := LH (show Below b w w1.drew from HB.out.drew)
 clear HZ HI HN HF HB
 generalize w1.drew = w2 at *
 have hS1 : w2.cell? ⟨w.heap.size, 0, none⟩ = some (.int .i64 p) ∧ w2.cell? ⟨w.heap.size, 1, none⟩ = some (.iface 144 (.pointer (some a))) := ⟨HF2.out.cell 0, HF2.out.cell 1⟩
 refine phAny_pure (i := 0) (v := .agg nv0) rfl (by kernel_rfl) (fun _ _ _ h => h) (Or.inl ⟨by rfl, fun W1 _ => by clear hS1; unfold nv0; go_simp⟩) (fun _ => hS1) ?_
 clear hS1
 unfold nv0
 try simp only [Act.put, List.setIfInBounds_toArray, List.set_cons_zero, List.set_cons_succ]
 refine phAny_ready (rs := [5]) (by kernel_rfl) (by simp) ?_
 refine phAll.cons rfl (fun K hK => ?_) phAll.nil
 have hzz := HZ2.out
 unfold nv0 at hzz
 have lz := hzz.lt
 have z0 := hzz.cell 0; have z1 := hzz.cell 1; have z2 := hzz.cell 2; have z3 := hzz.cell 3; have z4 := hzz.cell 4; have z5 := hzz.cell 5; have z6 := hzz.cell 6; have z7 := hzz.cell 7; have z8 := hzz.cell 8; have z9 := hzz.cell 9; have z10 := hzz.cell 10; have z11 := hzz.cell 11
 have fz0 := hzz.frozen 0; have fz1 := hzz.frozen 1; have fz2 := hzz.frozen 2; have fz3 := hzz.frozen 3; have fz4 := hzz.frozen 4; have fz5 := hzz.frozen 5; have fz6 := hzz.frozen 6; have fz7 := hzz.frozen 7; have fz8 := hzz.frozen 8; have fz9 := hzz.frozen 9; have fz10 := hzz.frozen 10; have fz11 := hzz.frozen 11
 simp only [List.getElem?_toArray, List.getElem?_cons_zero, List.getElem?_cons_succ] at z0 z1 z2 z3 z4 z5 z6 z7 z8 z9 z10 z11
 clear hzz
 go_simp
 clear z0 z1 z2 z3 z4 z5 z6 z7 z8 z9 z10 z11 fz0 fz1 fz2 fz3 fz4 fz5 fz6 fz7 fz8 fz9 fz10 fz11 lz
 have HZ3 := LH (show Blk ((((((((((((w2.setCell ⟨b, 0, none⟩ (.int .i64 0)).setCell ⟨b, 1, none⟩ (.string ⟨#[]⟩)).setCell ⟨b, 2, none⟩ (.string ⟨#[]⟩)).setCell ⟨b, 3, none⟩ (.int .i64 0)).setCell ⟨b, 4, none⟩ (.bool false)).setCell ⟨b, 5, none⟩ (.bool false)).setCell ⟨b, 6, none⟩ (.string ⟨#[]⟩)).setCell ⟨b, 7, none⟩ (.bool false)).setCell ⟨b, 8, none⟩ (.bool false)).setCell ⟨b, 9, none⟩ (.string ⟨#[]⟩)).setCell ⟨b, 10, none⟩ (.slice none 0 0)).setCell ⟨b, 11, none⟩ (.slice none 0 0)) b 27 nv0 from Blk.set12 (x := ⟨0, [], [], 0, bd0, bd0, ⟨none, 0, 0⟩, ⟨none, 0, 0⟩⟩) (y := ⟨0, [], [], 0, bd0, bd0, ⟨none, 0, 0⟩, ⟨none, 0, 0⟩⟩) HZ2.out)
 have HI3 := LH (show Blk ((((((((((((w2.setCell ⟨b, 0, none⟩ (.int .i64 0)).setCell ⟨b, 1, none⟩ (.string ⟨#[]⟩)).setCell ⟨b, 2, none⟩ (.string ⟨#[]⟩)).setCell ⟨b, 3, none⟩ (.int .i64 0)).setCell ⟨b, 4, none⟩ (.bool false)).setCell ⟨b, 5, none⟩ (.bool false)).setCell ⟨b, 6, none⟩ (.string ⟨#[]⟩)).setCell ⟨b, 7, none⟩ (.bool false)).setCell ⟨b, 8, none⟩ (.bool false)).setCell ⟨b, 9, none⟩ (.string ⟨#[]⟩)).setCell ⟨b, 10, none⟩ (.slice none 0 0)).setCell ⟨b, 11, none⟩ (.slice none 0 0)) (b + 1) 3 #[.int .i64 0] from ((((((((((((HI2.out.far (p := ⟨b, 0, none⟩) (by show b + 1 ≠ b; omega) (.int .i64 0)).far (p := ⟨b, 1, none⟩) (by show b + 1 ≠ b; omega) (.string ⟨#[]⟩)).far (p := ⟨b, 2, none⟩) (by show b + 1 ≠ b; omega) (.string ⟨#[]⟩)).far (p := ⟨b, 3, none⟩) (by show b + 1 ≠ b; omega) (.int .i64 0)).far (p := ⟨b, 4, none⟩) (by show b + 1 ≠ b; omega) (.bool false)).far (p := ⟨b, 5, none⟩) (by show b + 1 ≠ b; omega) (.bool false)).far (p := ⟨b, 6, none⟩) (by show b + 1 ≠ b; omega) (.string ⟨#[]⟩)).far (p := ⟨b, 7, none⟩) (by show b + 1 ≠ b; omega) (.bool false)).far (p := ⟨b, 8, none⟩) (by show b + 1 ≠ b; omega) (.bool false)).far (p := ⟨b, 9, none⟩) (by show b + 1 ≠ b; omega) (.string ⟨#[]⟩)).far (p := ⟨b, 10, none⟩) (by show b + 1 ≠ b; omega) (.slice none 0 0)).far (p := ⟨b, 11, none⟩) (by show b + 1 ≠ b; omega) (.slice none 0 0)))
 have HN3 := LH (show Blk ((((((((((((w2.setCell ⟨b, 0, none⟩ (.int .i64 0)).setCell ⟨b, 1, none⟩ (.string ⟨#[]⟩)).setCell ⟨b, 2, none⟩ (.string ⟨#[]⟩)).setCell ⟨b, 3, none⟩ (.int .i64 0)).setCell ⟨b, 4, none⟩ (.bool false)).setCell ⟨b, 5, none⟩ (.bool false)).setCell ⟨b, 6, none⟩ (.string ⟨#[]⟩)).setCell ⟨b, 7, none⟩ (.bool false)).setCell ⟨b, 8, none⟩ (.bool false)).setCell ⟨b, 9, none⟩ (.string ⟨#[]⟩)).setCell ⟨b, 10, none⟩ (.slice none 0 0)).setCell ⟨b, 11, none⟩ (.slice none 0 0)) (b + 1 + 1) 35 #[.nilIface] from ((((((((((((HN2.out.far (p := ⟨b, 0, none⟩) (by show b + 1 + 1 ≠ b; omega) (.int .i64 0)).far (p := ⟨b, 1, none⟩) (by show b + 1 + 1 ≠ b; omega) (.string ⟨#[]⟩)).far (p := ⟨b, 2, none⟩) (by show b + 1 + 1 ≠ b; omega) (.string ⟨#[]⟩)).far (p := ⟨b, 3, none⟩) (by show b + 1 + 1 ≠ b; omega) (.int .i64 0)).far (p := ⟨b, 4, none⟩) (by show b + 1 + 1 ≠ b; omega) (.bool false)).far (p := ⟨b, 5, none⟩) (by show b + 1 + 1 ≠ b; omega) (.bool false)).far (p := ⟨b, 6, none⟩) (by show b + 1 + 1 ≠ b; omega) (.string ⟨#[]⟩)).far (p := ⟨b, 7, none⟩) (by show b + 1 + 1 ≠ b; omega) (.bool false)).far (p := ⟨b, 8, none⟩) (by show b + 1 + 1 ≠ b; omega) (.bool false)).far (p := ⟨b, 9, none⟩) (by show b + 1 + 1 ≠ b; omega) (.string ⟨#[]⟩)).far (p := ⟨b, 10, none⟩) (by show b + 1 + 1 ≠ b; omega) (.slice none 0 0)).far (p := ⟨b, 11, none⟩) (by show b + 1 + 1 ≠ b; omega) (.slice none 0 0)))
 have HF3 := LH (show Blk ((((((((((((w2.setCell ⟨b, 0, none⟩ (.int .i64 0)).setCell ⟨b, 1, none⟩ (.string ⟨#[]⟩)).setCell ⟨b, 2, none⟩ (.string ⟨#[]⟩)).setCell ⟨b, 3, none⟩ (.int .i64 0)).setCell ⟨b, 4, none⟩ (.bool false)).setCell ⟨b, 5, none⟩ (.bool false)).setCell ⟨b, 6, none⟩ (.string ⟨#[]⟩)).setCell ⟨b, 7, none⟩ (.bool false)).setCell ⟨b, 8, none⟩ (.bool false)).setCell ⟨b, 9, none⟩ (.string ⟨#[]⟩)).setCell ⟨b, 10, none⟩ (.slice none 0 0)).setCell ⟨b, 11, none⟩ (.slice none 0 0)) w.heap.size 81 #[.int .i64 p, (.iface 144 (.pointer (some a)))] from ((((((((((((HF2.out.far (p := ⟨b, 0, none⟩) (by have := HLT.out; show w.heap.size ≠ b; omega) (.int .i64 0)).far (p := ⟨b, 1, none⟩) (by have := HLT.out; show w.heap.size ≠ b; omega) (.string ⟨#[]⟩)).far (p := ⟨b, 2, none⟩) (by have := HLT.out; show w.heap.size ≠ b; omega) (.string ⟨#[]⟩)).far (p := ⟨b, 3, none⟩) (by have := HLT.out; show w.heap.size ≠ b; omega) (.int .i64 0)).far (p := ⟨b, 4, none⟩) (by have := HLT.out; show w.heap.size ≠ b; omega) (.bool false)).far (p := ⟨b, 5, none⟩) (by have := HLT.out; show w.heap.size ≠ b; omega) (.bool false)).far (p := ⟨b, 6, none⟩) (by have := HLT.out; show w.heap.size ≠ b; omega) (.string ⟨#[]⟩)).far (p := ⟨b, 7, none⟩) (by have := HLT.out; show w.heap.size ≠ b; omega) (.bool false)).far (p := ⟨b, 8, none⟩) (by have := HLT.out; show w.heap.size ≠ b; omega) (.bool false)).far (p := ⟨b, 9, none⟩) (by have := HLT.out; show w.heap.size ≠ b; omega) (.string ⟨#[]⟩)).far (p := ⟨b, 10, none⟩) (by have := HLT.out; show w.heap.size ≠ b; omega) (.slice none 0 0)).far (p := ⟨b, 11, none⟩) (by have := HLT.out; show w.heap.size ≠ b; omega) (.slice none 0 0)))
 have HB3 := LH (show Below b w ((((((((((((w2.setCell ⟨b, 0, none⟩ (.int .i64 0)).setCell ⟨b, 1, none⟩ (.string ⟨#[]⟩)).setCell ⟨b, 2, none⟩ (.string ⟨#[]⟩)).setCell ⟨b, 3, none⟩ (.int .i64 0)).setCell ⟨b, 4, none⟩ (.bool false)).setCell ⟨b, 5, none⟩ (.bool false)).setCell ⟨b, 6, none⟩ (.string ⟨#[]⟩)).setCell ⟨b, 7, none⟩ (.bool false)).setCell ⟨b, 8, none⟩ (.bool false)).setCell ⟨b, 9, none⟩ (.string ⟨#[]⟩)).setCell ⟨b, 10, none⟩ (.slice none 0 0)).setCell ⟨b, 11, none⟩ (.slice none 0 0)) from ((((((((((((HB2.out.setCell (p := ⟨b, 0, none⟩) (Nat.le_refl _) (.int .i64 0)).setCell (p := ⟨b, 1, none⟩) (Nat.le_refl _) (.string ⟨#[]⟩)).setCell (p := ⟨b, 2, none⟩) (Nat.le_refl _) (.string ⟨#[]⟩)).setCell (p := ⟨b, 3, none⟩) (Nat.le_refl _) (.int .i64 0)).setCell (p := ⟨b, 4, none⟩) (Nat.le_refl _) (.bool false)).setCell (p := ⟨b, 5, none⟩) (Nat.le_refl _) (.bool false)).setCell (p := ⟨b, 6, none⟩) (Nat.le_refl _) (.string ⟨#[]⟩)).setCell (p := ⟨b, 7, none⟩) (Nat.le_refl _) (.bool false)).setCell (p := ⟨b, 8, none⟩) (Nat.le_refl _) (.bool false)).setCell (p := ⟨b, 9, none⟩) (Nat.le_refl _) (.string ⟨#[]⟩)).setCell (p := ⟨b, 10, none⟩) (Nat.le_refl _) (.slice none 0 0)).setCell (p := ⟨b, 11, none⟩) (Nat.le_refl _) (.slice none 0 0)))
 clear HZ2 HI2 HN2 HF2 HB2
 generalize ((((((((((((w2.setCell ⟨b, 0, none⟩ (.int .i64 0)).setCell ⟨b, 1, none⟩ (.string ⟨#[]⟩)).setCell ⟨b, 2, none⟩ (.string ⟨#[]⟩)).setCell ⟨b, 3, none⟩ (.int .i64 0)).setCell ⟨b, 4, none⟩ (.bool false)).setCell ⟨b, 5, none⟩ (.bool false)).setCell ⟨b, 6, none⟩ (.string ⟨#[]⟩)).setCell ⟨b, 7, none⟩ (.bool false)).setCell ⟨b, 8, none⟩ (.bool false)).setCell ⟨b, 9, none⟩ (.string ⟨#[]⟩)).setCell ⟨b, 10, none⟩ (.slice none 0 0)).setCell ⟨b, 11, none⟩ (.slice none 0 0)) = w3 at *
 refine hK.out _ _ (fun _ => ⟨HF3.out.cell 0, HF3.out.cell 1⟩) ?_
 clear hK K
 try simp only [Act.put, List.setIfInBounds_toArray, List.set_cons_zero, List.set_cons_succ]
 refine phAny_ready (rs := [6]) (by kernel_rfl) (by simp) ?_
 refine phAll.cons rfl (fun K hK => ?_) phAll.nil
 have li := HI3.out.lt; have i0 := HI3.out.cell 0; have fi0 := HI3.out.frozen 0
 simp only [List.getElem?_toArray, List.getElem?_cons_zero, List.getElem?_cons_succ] at i0
 go_simp
 clear li i0 fi0
 have HZ4 := LH (HZ3.out.far (p := ⟨b + 1, 0, none⟩) (by show b ≠ b + 1; omega) (.int .i64 p))
 have HI4 := LH (show Blk (w3.setCell ⟨b + 1, 0, none⟩ (.int .i64 p)) (b + 1) 3 #[.int .i64 p] from HI3.out.set_ 0 (.int .i64 p))
 have HN4 := LH (HN3.out.far (p := ⟨b + 1, 0, none⟩) (by show b + 1 + 1 ≠ b + 1; omega) (.int .i64 p))
 have HF4 := LH (HF3.out.far (p := ⟨b + 1, 0, none⟩) (by have := HLT.out; show w.heap.size ≠ b + 1; omega) (.int .i64 p))
 have HB4 := LH (HB3.out.setCell (p := ⟨b + 1, 0, none⟩) (by show b ≤ b + 1; omega) (.int .i64 p))
 clear HZ3 HI3 HN3 HF3 HB3
 generalize (w3.setCell ⟨b + 1, 0, none⟩ (.int .i64 p)) = w4 at *
 refine hK.out _ _ (fun _ => ⟨HF4.out.cell 0, HF4.out.cell 1⟩) ?_
 clear hK K
 try simp only [Act.put, List.setIfInBounds_toArray, List.set_cons_zero, List.set_cons_succ]
 refine phAny_ready (rs := [7]) (by kernel_rfl) (by simp) ?_
 refine phAll.cons rfl (fun K hK => ?_) phAll.nil
 have li := HN4.out.lt; have i0 := HN4.out.cell 0; have fi0 := HN4.out.frozen 0
 simp only [List.getElem?_toArray, List.getElem?_cons_zero, List.getElem?_cons_succ] at i0
 go_simp
 clear li i0 fi0
 have HZ5 := LH (HZ4.out.far (p := ⟨b + 1 + 1, 0, none⟩) (by show b ≠ b + 1 + 1; omega) (.iface 144 (.pointer (some a))))
 have HI5 := LH (HI4.out.far (p := ⟨b + 1 + 1, 0, none⟩) (by show b + 1 ≠ b + 1 + 1; omega) (.iface 144 (.pointer (some a))))
 have HN5 := LH (show Blk (w4.setCell ⟨b + 1 + 1, 0, none⟩ (.iface 144 (.pointer (some a)))) (b + 1 + 1) 35 #[(.iface 144 (.pointer (some a)))] from HN4.out.set_ 0 (.iface 144 (.pointer (some a))))
 have HB5 := LH (HB4.out.setCell (p := ⟨b + 1 + 1, 0, none⟩) (by show b ≤ b + 1 + 1; omega) (.iface 144 (.pointer (some a))))
 clear HZ4 HI4 HN4 HF4 HB4
 generalize (w4.setCell ⟨b + 1 + 1, 0, none⟩ (.iface 144 (.pointer (some a)))) = w5 at *
 refine hK.out _ _ (fun h => nomatch (show true = false from h)) ?_
 clear hK K
 try simp only [Act.put, List.setIfInBounds_toArray, List.set_cons_zero, List.set_cons_succ]
 refine phAny_done (by kernel_rfl) ?_ _
 have HR := LH (show CloRet b p (.iface 144 (.pointer (some a))) w w5 from ⟨HB5.out, HZ5.out, HI5.out, HN5.out⟩)
 clear HZ5 HI5 HN5 HB5
 go_wp2
 cases c₀
 simp_all [bodyPostS, results, Tryd.results42]
 exact HR.out
end Go.Proofs.YthcldpminmhgkaaDoor
end
