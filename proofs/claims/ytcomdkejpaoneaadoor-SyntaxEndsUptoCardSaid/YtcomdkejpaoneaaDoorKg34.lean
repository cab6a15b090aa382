/- Merged for a claim by shake.py: Um Va Ve Hq Vf Tm Vg Hr -/
import Derived.Defers
import Derived.Lib.LaidTab
import Derived.MakeChecks
import Derived.Recover
import Derived.Test.YtcomdkejpaoneaaDoorKg1
import Derived.Test.YtcomdkejpaoneaaDoorKg16
import Derived.Test.YtcomdkejpaoneaaDoorKg17
import Derived.Test.YtcomdkejpaoneaaDoorKg25
import Derived.Test.YtcomdkejpaoneaaDoorKg27
import Derived.Test.YtcomdkejpaoneaaDoorKg33
import Derived.Test.YtcomdkejpaoneaaDoorKg5
import Derived.Test.YtcomdkejpaoneaaDoorRows
section
namespace Go.Proofs.YtcomdkejpaoneaaDoor
open Go.RowKit
set_option maxRecDepth 100000
set_option maxHeartbeats 4000000
set_option linter.unusedSimpArgs false
set_option linter.unusedVariables false
theorem pclose_idle (a0 a1 a2 : Value) (w : World) :
    CallsD Tryd.prog 34 #[a0, a1, a2] .returning w fun e u' w' => e = .returned (.tuple #[]) ∧ u' = .returning ∧ w' = w := by
  refine callsD_of_wpS Tryd.func34 rfl fun c₀ cs hu => ?_
  apply wpS_seq
  apply wpS_region
  simp [wpOpsS, go_sem, recoverD, hu, Tryd.ntmps34, Exit.thenS]
  refine wpS_of_wp ?_
  go_wp2
  cases c₀
  simp_all [bodyPostS, results, Tryd.results34]
theorem pscanned_ok (s : ByteArray) (w : World) (ea : List Addr) (ei : Nat) (hs : s.size ≤ 10000000) (hE : ClsEnv w) (hv : ErrAt w 0 (errI ea ei)) (la : List Lx) (n : Nat) (hr : scanL s.data.toList = (la, none)) (hc : checkS s.data.toList = .inl n) (hn : n ≤ 64) :
    Calls Tryd.prog 35 #[.string s] w fun e w' => Below w.heap.size w w' ∧ ∃ sl, e = .returned sl ∧ OwnL ltS w' w.heap.size sl (la.map Lx.lt) := by
  have hck := scheck_any s w ea ei hs hE hv
  rw [hc] at hck
  have HCK := Lib.hid hck
  have HSC := Lib.hid (fun (W : World) (hW : Below w.heap.size w W) => Scan_any s W (errI ea ei) hs (hE.belowB hE.2 hW) (hv.below hv.2 hW))
  have HR := Lib.hid hr
  have e64 : decide (64 < n) = false := by simp; omega
  clear hck hr hc hE hv
  go_enter Tryd.func35, Tryd.ntmps35
  go_wp2_with fail
  refine HCK.out.mono ?_
  rintro e w2 ⟨hb2, rfl⟩
  simp only []
  have HB2 := Lib.hid hb2
  clear hb2
  go_wp2_with fail
  refine (HSC.out w2 HB2.out).mono ?_
  rintro e w3 ⟨hb3, hm⟩
  rw [HR.out] at hm
  obtain ⟨sl, rfl, ho⟩ := hm
  have HB3 := Lib.hid (HB2.out.trans (hb3.mono HB2.out.size))
  have HO3 := Lib.hid (show OwnL ltS w3 w.heap.size sl (la.map Lx.lt) from ho.lt.more HB2.out.size)
  clear hb3 ho
  go_wp2
  go_ret
  exact ⟨HB3.out, _, rfl, HO3.out⟩
def ParRet (t : Nd) (w : World) (e : Ending) (w' : World) : Prop :=
  Below w.heap.size w w' ∧ ∃ x : NV, e = .returned (.tuple #[x.val, .int .i64 0, .nilIface]) ∧ NdR w' (rng w.heap.size w'.heap.size) x t
theorem pparse_ok (s : ByteArray) (w : World) (ea : List Addr) (ei : Nat) (hs : s.size ≤ 10000000) (hE : ClsEnv w) (hv : ErrAt w 0 (errI ea ei)) (la : List Lx) (n : Nat) (hr : scanL s.data.toList = (la, none)) (hc : checkS s.data.toList = .inl n) (hn : n ≤ 64)
    (hT : TkOk (la.map Lx.lt)) (A : List Lt) (e0 : Lt) (m : Nat) (v : Vl) (hA : la.map Lx.lt = A ++ [e0]) (he : e0.kind = 0) (hD : D .list A m v) :
    Calls Tryd.prog 18 #[.string s] w (ParRet (treeN (v [])) w) := by
  have hmf : ∀ (fn : Fn) (first cap : Array Value) (w : World), (Instr.makeFunc fn first cap).run Tryd.prog w = .ok (.func fn first cap) w := fun _ _ _ _ => rfl
  have hbw : Below w.heap.size w (((w.alloc (.cells #[.int .i64 0, .string ⟨#[]⟩, .string ⟨#[]⟩, .int .i64 0, .bool false, .bool false, .string ⟨#[]⟩, .bool false, .bool false, .string ⟨#[]⟩, .slice none 0 0, .slice none 0 0] 36)).alloc (.cells #[.int .i64 0] 3)).alloc (.cells #[.nilIface] 24)) :=
    (((Below.refl _ _).alloc (Nat.le_refl _) _).alloc (by rw [World.size_alloc]; omega) _).alloc (by rw [World.size_alloc, World.size_alloc]; omega) _
  have HB1 := Lib.hid hbw
  have HZ1 := Lib.hid (((Blk.new w 36 #[.int .i64 0, .string ⟨#[]⟩, .string ⟨#[]⟩, .int .i64 0, .bool false, .bool false, .string ⟨#[]⟩, .bool false, .bool false, .string ⟨#[]⟩, .slice none 0 0, .slice none 0 0]).alloc (.cells #[.int .i64 0] 3)).alloc (.cells #[.nilIface] 24))
  have HI1 := Lib.hid (show Blk (((w.alloc (.cells #[.int .i64 0, .string ⟨#[]⟩, .string ⟨#[]⟩, .int .i64 0, .bool false, .bool false, .string ⟨#[]⟩, .bool false, .bool false, .string ⟨#[]⟩, .slice none 0 0, .slice none 0 0] 36)).alloc (.cells #[.int .i64 0] 3)).alloc (.cells #[.nilIface] 24)) (w.heap.size + 1) 3 #[.int .i64 0] from by have h := (Blk.new (w.alloc (.cells #[.int .i64 0, .string ⟨#[]⟩, .string ⟨#[]⟩, .int .i64 0, .bool false, .bool false, .string ⟨#[]⟩, .bool false, .bool false, .string ⟨#[]⟩, .slice none 0 0, .slice none 0 0] 36)) 3 #[.int .i64 0]).alloc (.cells #[.nilIface] 24); rw [World.size_alloc] at h; exact h)
  have HN1 := Lib.hid (show Blk (((w.alloc (.cells #[.int .i64 0, .string ⟨#[]⟩, .string ⟨#[]⟩, .int .i64 0, .bool false, .bool false, .string ⟨#[]⟩, .bool false, .bool false, .string ⟨#[]⟩, .slice none 0 0, .slice none 0 0] 36)).alloc (.cells #[.int .i64 0] 3)).alloc (.cells #[.nilIface] 24)) (w.heap.size + 1 + 1) 24 #[.nilIface] from by have h := Blk.new ((w.alloc (.cells #[.int .i64 0, .string ⟨#[]⟩, .string ⟨#[]⟩, .int .i64 0, .bool false, .bool false, .string ⟨#[]⟩, .bool false, .bool false, .string ⟨#[]⟩, .slice none 0 0, .slice none 0 0] 36)).alloc (.cells #[.int .i64 0] 3)) 24 #[.nilIface]; rw [World.size_alloc, World.size_alloc] at h; exact h)
  have HW1 := Lib.hid (show (((w.alloc (.cells #[.int .i64 0, .string ⟨#[]⟩, .string ⟨#[]⟩, .int .i64 0, .bool false, .bool false, .string ⟨#[]⟩, .bool false, .bool false, .string ⟨#[]⟩, .slice none 0 0, .slice none 0 0] 36)).alloc (.cells #[.int .i64 0] 3)).alloc (.cells #[.nilIface] 24)).heap.size = w.heap.size + 3 from by rw [World.size_alloc, World.size_alloc, World.size_alloc])
  have HSC := Lib.hid (pscanned_ok s (((w.alloc (.cells #[.int .i64 0, .string ⟨#[]⟩, .string ⟨#[]⟩, .int .i64 0, .bool false, .bool false, .string ⟨#[]⟩, .bool false, .bool false, .string ⟨#[]⟩, .slice none 0 0, .slice none 0 0] 36)).alloc (.cells #[.int .i64 0] 3)).alloc (.cells #[.nilIface] 24)) ea ei hs (hE.belowB hE.2 hbw) (hv.below hv.2 hbw) la n hr hc hn)
  have HT := Lib.hid hT; have HA := Lib.hid hA; have HD := Lib.hid hD; have HE0 := Lib.hid he
  clear hbw hr hc hT hA hD he hE hv
  go_enter_defers Tryd.func18, Tryd.ntmps18
  go_wp2_with fail
  generalize ((w.alloc (.cells #[.int .i64 0, .string ⟨#[]⟩, .string ⟨#[]⟩, .int .i64 0, .bool false, .bool false, .string ⟨#[]⟩, .bool false, .bool false, .string ⟨#[]⟩, .slice none 0 0, .slice none 0 0] 36)).alloc (.cells #[.int .i64 0] 3)).alloc (.cells #[.nilIface] 24) = w1 at *
  refine HSC.out.mono ?_
  rintro e w3 ⟨hb3, sl, rfl, ho⟩
  obtain ⟨RA, rc, rfl, -, -⟩ := ho.form
  have HB3 := Lib.hid (HB1.out.trans (hb3.mono HB1.out.size))
  have HZ3 := Lib.hid (HZ1.out.belowW hb3); have HI3 := Lib.hid (HI1.out.belowW hb3); have HN3 := Lib.hid (HN1.out.belowW hb3)
  have HW3 := Lib.hid (show w.heap.size + 3 ≤ w3.heap.size from by have h1 := HW1.out; have h2 := hb3.size; omega)
  have HP4 := Lib.hid (show PsAt (w3.alloc (.cells #[.slice RA (la.map Lx.lt).length rc, .int .i64 0] 73)) w3.heap.size RA rc (la.map Lx.lt) 0 from ⟨Blk.new w3 _ _, (RdL.of_own ho).alloc (Nat.le_refl _) _⟩)
  clear hb3 ho
  rw [List.length_map] at HP4 ⊢
  have HB4 := Lib.hid (show Below w.heap.size w (w3.alloc (.cells #[.slice RA la.length rc, .int .i64 0] 73)) from HB3.out.alloc HB3.out.size _)
  have HZ4 := Lib.hid (HZ3.out.alloc (.cells #[.slice RA la.length rc, .int .i64 0] 73)); have HI4 := Lib.hid (HI3.out.alloc (.cells #[.slice RA la.length rc, .int .i64 0] 73)); have HN4 := Lib.hid (HN3.out.alloc (.cells #[.slice RA la.length rc, .int .i64 0] 73))
  have HPL := Lib.hid (show Calls Tryd.prog 37 #[.pointer (some ⟨w3.heap.size, 0, none⟩), .string ⟨#[]⟩] (w3.alloc (.cells #[.slice RA la.length rc, .int .i64 0] 73)) (LsRet w3.heap.size RA rc (la.map Lx.lt) (0 + A.length) (v []) (w3.alloc (.cells #[.slice RA la.length rc, .int .i64 0] 73))) from
    parts_ok HT.out (A.length + 1) A m v HD.out (Nat.lt_succ_self _) _ 0 [] [e0] (by rw [List.drop_zero]; exact HA.out) ⟨e0, [], rfl, .inl HE0.out⟩ HP4.out)
  have HS4 := Lib.hid (show (w3.alloc (.cells #[.slice RA la.length rc, .int .i64 0] 73)).heap.size = w3.heap.size + 1 from World.size_alloc _ _)
  go_wp2_with fail
  generalize w3.alloc (.cells #[.slice RA la.length rc, .int .i64 0] 73) = w4 at *
  refine HPL.out.mono ?_
  rintro e w5 ⟨hb5, hp5, ⟨ska, skn, skc⟩, ⟨soa, son, soc⟩, nl, rfl, hk5, ho5, hn5⟩
  have HB5 := Lib.hid (show Below w.heap.size w w5 from HB4.out.trans (hb5.below.mono HB3.out.size))
  have HZ5 := Lib.hid (HZ4.out.pb hb5 (by have := HW3.out; omega)); have HI5 := Lib.hid (HI4.out.pb hb5 (by have := HW3.out; omega)); have HN5 := Lib.hid (HN4.out.pb hb5 (by have := HW3.out; omega))
  have HTR := Lib.hid (ptree_any w5 (rng w4.heap.size w5.heap.size) ⟨ska, skn, skc⟩ ⟨soa, son, soc⟩ nl (v []) hk5 ho5 hn5 (fun b h => h.2))
  clear hb5 hp5 hk5 ho5 hn5
  go_wp2_with fail
  refine HTR.out.mono ?_
  rintro e w6 ⟨hb6, x, rfl, hx⟩
  obtain ⟨kd, fl, tx, xn, ⟨l1, l2, l3⟩, ⟨r1, r2, r3⟩, ⟨oa, on, oc⟩, ⟨ka, kn, kc⟩⟩ := x
  unfold NV.val
  simp only []
  have HB6 := Lib.hid (HB5.out.trans (hb6.mono HB5.out.size))
  have HX6 := Lib.hid hx
  have HF6 := Lib.hid (fun (b : Nat) (h : rng w4.heap.size w5.heap.size b) => (show w.heap.size + 2 < b ∧ b < w6.heap.size from ⟨by have h1 := HW3.out; have h2 := HS4.out; have := h.1; omega, Nat.lt_of_lt_of_le h.2 hb6.size⟩))
  have hzz := HZ5.out.belowW hb6
  have hii := HI5.out.belowW hb6
  have hnn := HN5.out.belowW hb6
  clear hb6 hx
  have z0 := hzz.cell 0; have z1 := hzz.cell 1; have z2 := hzz.cell 2; have z3 := hzz.cell 3; have z4 := hzz.cell 4; have z5 := hzz.cell 5; have z6 := hzz.cell 6; have z7 := hzz.cell 7; have z8 := hzz.cell 8; have z9 := hzz.cell 9; have z10 := hzz.cell 10; have z11 := hzz.cell 11
  have fz0 := hzz.frozen 0; have fz1 := hzz.frozen 1; have fz2 := hzz.frozen 2; have fz3 := hzz.frozen 3; have fz4 := hzz.frozen 4; have fz5 := hzz.frozen 5; have fz6 := hzz.frozen 6; have fz7 := hzz.frozen 7; have fz8 := hzz.frozen 8; have fz9 := hzz.frozen 9; have fz10 := hzz.frozen 10; have fz11 := hzz.frozen 11
  have i0 := hii.cell 0; have fi0 := hii.frozen 0; have n0 := hnn.cell 0; have fn0 := hnn.frozen 0
  have lz := hzz.lt; have li := hii.lt; have ln := hnn.lt
  simp only [List.getElem?_toArray, List.getElem?_cons_zero, List.getElem?_cons_succ] at z0 z1 z2 z3 z4 z5 z6 z7 z8 z9 z10 z11 i0 n0
  have HZ6 := Lib.hid hzz; have HI6 := Lib.hid hii; have HN6 := Lib.hid hnn
  clear hzz hii hnn
  go_wp2
  clear z0 z1 z2 z3 z4 z5 z6 z7 z8 z9 z10 z11 fz0 fz1 fz2 fz3 fz4 fz5 fz6 fz7 fz8 fz9 fz10 fz11 i0 fi0 n0 fn0 lz li ln
  have HZF := Lib.hid (show Blk ((((((((((((((w6.setCell ⟨w.heap.size, 0, none⟩ (.int .i64 kd)).setCell ⟨w.heap.size, 1, none⟩ (.string (str fl))).setCell ⟨w.heap.size, 2, none⟩ (.string (str tx))).setCell ⟨w.heap.size, 3, none⟩ (.int .i64 xn)).setCell ⟨w.heap.size, 4, none⟩ (.bool l1)).setCell ⟨w.heap.size, 5, none⟩ (.bool l2)).setCell ⟨w.heap.size, 6, none⟩ (.string (str l3))).setCell ⟨w.heap.size, 7, none⟩ (.bool r1)).setCell ⟨w.heap.size, 8, none⟩ (.bool r2)).setCell ⟨w.heap.size, 9, none⟩ (.string (str r3))).setCell ⟨w.heap.size, 10, none⟩ (.slice oa on oc)).setCell ⟨w.heap.size, 11, none⟩ (.slice ka kn kc)).setCell ⟨w.heap.size + 1, 0, none⟩ (.int .i64 0)).setCell ⟨w.heap.size + 1 + 1, 0, none⟩ .nilIface) w.heap.size 36 (NV.cells ⟨kd, fl, tx, xn, ⟨l1, l2, l3⟩, ⟨r1, r2, r3⟩, ⟨oa, on, oc⟩, ⟨ka, kn, kc⟩⟩).toArray from ((((Blk.set12 (x := ⟨0, [], [], 0, bd0, bd0, ⟨none, 0, 0⟩, ⟨none, 0, 0⟩⟩) (y := ⟨kd, fl, tx, xn, ⟨l1, l2, l3⟩, ⟨r1, r2, r3⟩, ⟨oa, on, oc⟩, ⟨ka, kn, kc⟩⟩) HZ6.out).far (p := ⟨w.heap.size + 1, 0, none⟩) (by show w.heap.size ≠ w.heap.size + 1; omega) _)).far (p := ⟨w.heap.size + 1 + 1, 0, none⟩) (by show w.heap.size ≠ w.heap.size + 1 + 1; omega) _))
  have HIF := Lib.hid (show Blk ((((((((((((((w6.setCell ⟨w.heap.size, 0, none⟩ (.int .i64 kd)).setCell ⟨w.heap.size, 1, none⟩ (.string (str fl))).setCell ⟨w.heap.size, 2, none⟩ (.string (str tx))).setCell ⟨w.heap.size, 3, none⟩ (.int .i64 xn)).setCell ⟨w.heap.size, 4, none⟩ (.bool l1)).setCell ⟨w.heap.size, 5, none⟩ (.bool l2)).setCell ⟨w.heap.size, 6, none⟩ (.string (str l3))).setCell ⟨w.heap.size, 7, none⟩ (.bool r1)).setCell ⟨w.heap.size, 8, none⟩ (.bool r2)).setCell ⟨w.heap.size, 9, none⟩ (.string (str r3))).setCell ⟨w.heap.size, 10, none⟩ (.slice oa on oc)).setCell ⟨w.heap.size, 11, none⟩ (.slice ka kn kc)).setCell ⟨w.heap.size + 1, 0, none⟩ (.int .i64 0)).setCell ⟨w.heap.size + 1 + 1, 0, none⟩ .nilIface) (w.heap.size + 1) 3 #[.int .i64 0] from ((HI6.out.off12 (z := w.heap.size) (y := ⟨kd, fl, tx, xn, ⟨l1, l2, l3⟩, ⟨r1, r2, r3⟩, ⟨oa, on, oc⟩, ⟨ka, kn, kc⟩⟩) (by omega)).set_ 0 (.int .i64 0)).far (p := ⟨w.heap.size + 1 + 1, 0, none⟩) (by show w.heap.size + 1 ≠ w.heap.size + 1 + 1; omega) _)
  have HNF := Lib.hid (show Blk ((((((((((((((w6.setCell ⟨w.heap.size, 0, none⟩ (.int .i64 kd)).setCell ⟨w.heap.size, 1, none⟩ (.string (str fl))).setCell ⟨w.heap.size, 2, none⟩ (.string (str tx))).setCell ⟨w.heap.size, 3, none⟩ (.int .i64 xn)).setCell ⟨w.heap.size, 4, none⟩ (.bool l1)).setCell ⟨w.heap.size, 5, none⟩ (.bool l2)).setCell ⟨w.heap.size, 6, none⟩ (.string (str l3))).setCell ⟨w.heap.size, 7, none⟩ (.bool r1)).setCell ⟨w.heap.size, 8, none⟩ (.bool r2)).setCell ⟨w.heap.size, 9, none⟩ (.string (str r3))).setCell ⟨w.heap.size, 10, none⟩ (.slice oa on oc)).setCell ⟨w.heap.size, 11, none⟩ (.slice ka kn kc)).setCell ⟨w.heap.size + 1, 0, none⟩ (.int .i64 0)).setCell ⟨w.heap.size + 1 + 1, 0, none⟩ .nilIface) (w.heap.size + 1 + 1) 24 #[.nilIface] from (((HN6.out.off12 (z := w.heap.size) (y := ⟨kd, fl, tx, xn, ⟨l1, l2, l3⟩, ⟨r1, r2, r3⟩, ⟨oa, on, oc⟩, ⟨ka, kn, kc⟩⟩) (by omega)).far (p := ⟨w.heap.size + 1, 0, none⟩) (by show w.heap.size + 1 + 1 ≠ w.heap.size + 1; omega) _).set_ 0 .nilIface))
  have HXF := Lib.hid (show NdR ((((((((((((((w6.setCell ⟨w.heap.size, 0, none⟩ (.int .i64 kd)).setCell ⟨w.heap.size, 1, none⟩ (.string (str fl))).setCell ⟨w.heap.size, 2, none⟩ (.string (str tx))).setCell ⟨w.heap.size, 3, none⟩ (.int .i64 xn)).setCell ⟨w.heap.size, 4, none⟩ (.bool l1)).setCell ⟨w.heap.size, 5, none⟩ (.bool l2)).setCell ⟨w.heap.size, 6, none⟩ (.string (str l3))).setCell ⟨w.heap.size, 7, none⟩ (.bool r1)).setCell ⟨w.heap.size, 8, none⟩ (.bool r2)).setCell ⟨w.heap.size, 9, none⟩ (.string (str r3))).setCell ⟨w.heap.size, 10, none⟩ (.slice oa on oc)).setCell ⟨w.heap.size, 11, none⟩ (.slice ka kn kc)).setCell ⟨w.heap.size + 1, 0, none⟩ (.int .i64 0)).setCell ⟨w.heap.size + 1 + 1, 0, none⟩ .nilIface) (rng w4.heap.size w5.heap.size) ⟨kd, fl, tx, xn, ⟨l1, l2, l3⟩, ⟨r1, r2, r3⟩, ⟨oa, on, oc⟩, ⟨ka, kn, kc⟩⟩ (treeN (v [])) from (HX6.out.set12 (z := w.heap.size) (y := ⟨kd, fl, tx, xn, ⟨l1, l2, l3⟩, ⟨r1, r2, r3⟩, ⟨oa, on, oc⟩, ⟨ka, kn, kc⟩⟩) (fun b h e => by have := (HF6.out b h).1; omega)).keep fun p hp _ => by
    have h := (HF6.out _ hp).1
    exact (World.cell?_of_block ((Below.heap_setCell _ ⟨w.heap.size + 1 + 1, 0, none⟩ _ p.block (by show p.block ≠ w.heap.size + 1 + 1; omega)).trans (Below.heap_setCell _ ⟨w.heap.size + 1, 0, none⟩ _ p.block (by show p.block ≠ w.heap.size + 1; omega)))))
  have hset : ∀ (W : World) (p : Addr) (u : Value), Below w.heap.size w W → w.heap.size ≤ p.block → Below w.heap.size w (W.setCell p u) := fun W p u h hp => h.setCell hp u
  have HBF := Lib.hid (show Below w.heap.size w ((((((((((((((w6.setCell ⟨w.heap.size, 0, none⟩ (.int .i64 kd)).setCell ⟨w.heap.size, 1, none⟩ (.string (str fl))).setCell ⟨w.heap.size, 2, none⟩ (.string (str tx))).setCell ⟨w.heap.size, 3, none⟩ (.int .i64 xn)).setCell ⟨w.heap.size, 4, none⟩ (.bool l1)).setCell ⟨w.heap.size, 5, none⟩ (.bool l2)).setCell ⟨w.heap.size, 6, none⟩ (.string (str l3))).setCell ⟨w.heap.size, 7, none⟩ (.bool r1)).setCell ⟨w.heap.size, 8, none⟩ (.bool r2)).setCell ⟨w.heap.size, 9, none⟩ (.string (str r3))).setCell ⟨w.heap.size, 10, none⟩ (.slice oa on oc)).setCell ⟨w.heap.size, 11, none⟩ (.slice ka kn kc)).setCell ⟨w.heap.size + 1, 0, none⟩ (.int .i64 0)).setCell ⟨w.heap.size + 1 + 1, 0, none⟩ .nilIface) from by
    repeat (first | with_reducible exact HB6.out | with_reducible refine hset _ _ _ ?_ (by first | exact Nat.le_refl _ | (show w.heap.size ≤ w.heap.size + 1; omega) | (show w.heap.size ≤ w.heap.size + 1 + 1; omega))))
  have HSF := Lib.hid (show ((((((((((((((w6.setCell ⟨w.heap.size, 0, none⟩ (.int .i64 kd)).setCell ⟨w.heap.size, 1, none⟩ (.string (str fl))).setCell ⟨w.heap.size, 2, none⟩ (.string (str tx))).setCell ⟨w.heap.size, 3, none⟩ (.int .i64 xn)).setCell ⟨w.heap.size, 4, none⟩ (.bool l1)).setCell ⟨w.heap.size, 5, none⟩ (.bool l2)).setCell ⟨w.heap.size, 6, none⟩ (.string (str l3))).setCell ⟨w.heap.size, 7, none⟩ (.bool r1)).setCell ⟨w.heap.size, 8, none⟩ (.bool r2)).setCell ⟨w.heap.size, 9, none⟩ (.string (str r3))).setCell ⟨w.heap.size, 10, none⟩ (.slice oa on oc)).setCell ⟨w.heap.size, 11, none⟩ (.slice ka kn kc)).setCell ⟨w.heap.size + 1, 0, none⟩ (.int .i64 0)).setCell ⟨w.heap.size + 1 + 1, 0, none⟩ .nilIface).heap.size = w6.heap.size from by simp only [set_size])
  clear hset
  generalize ((((((((((((((w6.setCell ⟨w.heap.size, 0, none⟩ (.int .i64 kd)).setCell ⟨w.heap.size, 1, none⟩ (.string (str fl))).setCell ⟨w.heap.size, 2, none⟩ (.string (str tx))).setCell ⟨w.heap.size, 3, none⟩ (.int .i64 xn)).setCell ⟨w.heap.size, 4, none⟩ (.bool l1)).setCell ⟨w.heap.size, 5, none⟩ (.bool l2)).setCell ⟨w.heap.size, 6, none⟩ (.string (str l3))).setCell ⟨w.heap.size, 7, none⟩ (.bool r1)).setCell ⟨w.heap.size, 8, none⟩ (.bool r2)).setCell ⟨w.heap.size, 9, none⟩ (.string (str r3))).setCell ⟨w.heap.size, 10, none⟩ (.slice oa on oc)).setCell ⟨w.heap.size, 11, none⟩ (.slice ka kn kc)).setCell ⟨w.heap.size + 1, 0, none⟩ (.int .i64 0)).setCell ⟨w.heap.size + 1 + 1, 0, none⟩ .nilIface) = wf at *
  refine leaves_cons (f := 34) (args := #[.pointer (some ⟨w.heap.size, 0, none⟩), .pointer (some ⟨w.heap.size + 1, 0, none⟩), .pointer (some ⟨w.heap.size + 1 + 1, 0, none⟩)]) (by simp) (by simp [go_sem]) ?_
  refine (pclose_idle _ _ _ wf).mono ?_
  rintro e u' w'' ⟨rfl, rfl, rfl⟩
  have hzz := HZF.out
  have z0 := hzz.cell 0; have z1 := hzz.cell 1; have z2 := hzz.cell 2; have z3 := hzz.cell 3; have z4 := hzz.cell 4; have z5 := hzz.cell 5; have z6 := hzz.cell 6; have z7 := hzz.cell 7; have z8 := hzz.cell 8; have z9 := hzz.cell 9; have z10 := hzz.cell 10; have z11 := hzz.cell 11
  have i0 := HIF.out.cell 0; have n0 := HNF.out.cell 0
  unfold NV.cells at z0 z1 z2 z3 z4 z5 z6 z7 z8 z9 z10 z11
  simp only [List.getElem?_toArray, List.getElem?_cons_zero, List.getElem?_cons_succ] at z0 z1 z2 z3 z4 z5 z6 z7 z8 z9 z10 z11 i0 n0
  clear hzz
  simp [Leaves, settle, results, Tryd.results18, go_sem, z0, z1, z2, z3, z4, z5, z6, z7, z8, z9, z10, z11, i0, n0]
  exact ⟨HBF.out, ⟨kd, fl, tx, xn, ⟨l1, l2, l3⟩, ⟨r1, r2, r3⟩, ⟨oa, on, oc⟩, ⟨ka, kn, kc⟩⟩, rfl, HXF.out.mono fun b h => ⟨by have := (HF6.out b h).1; omega, by rw [HSF.out]; exact (HF6.out b h).2⟩⟩
end Go.Proofs.YtcomdkejpaoneaaDoor
end
section
namespace Go.Proofs.YtcomdkejpaoneaaDoor
open Go.RowKit
set_option maxRecDepth 100000
set_option maxHeartbeats 4000000
set_option linter.unusedSimpArgs false
set_option linter.unusedVariables false
theorem lives_chk : checkS [40, 40, 97, 41, 41, 94, 50, 94, 51] = .inl 4 := by kernel_rfl
theorem lives_scanP : scanL [43, 97] = ([⟨15, [], 0, 0, 1⟩, ⟨1, [97], 0, 1, 2⟩, ⟨0, [], 0, 2, 2⟩], none) := by kernel_rfl
theorem lives_chkP : checkS [43, 97] = .inl 0 := by kernel_rfl
theorem livesD : D .list [⟨15, [], 0, 0, 1⟩, ⟨1, [97], 0, 1, 2⟩] 0 (fun f => ((fun f => [(0, ndLeaf 1 f [97] 0)]) f).map fun x => ((if (15 : Int) = 15 then 1 else 2 : Int), x.2)) :=
  D.one (D.sign (s := ⟨15, [], 0, 0, 1⟩) (A := [⟨1, [97], 0, 1, 2⟩]) (.inl rfl) (D.pieceU (D.atomP (D.bodyA (D.leafB (D.word (t := ⟨1, [97], 0, 1, 2⟩) rfl))))))
theorem slives_at (w : World) (ea : List Addr) (n : Nat) (hE : ErrAt w 0 (errI ea n)) (hc : ClsEnv w) :
    Calls Tryd.prog 14 #[] w fun e w' => e = .returned (.bool true) ∧ Below w.heap.size w w' := by
  have HC1 := Lib.hid (scheck_any ⟨#[40, 40, 97, 41, 41, 94, 50, 94, 51]⟩ w ea n (by decide) hc hE)
  have HPR := Lib.hid (fun (W : World) (hW : Below w.heap.size w W) => pparse_ok ⟨#[43, 97]⟩ W ea n (by decide) (hc.belowB hc.2 hW) (hE.below hE.2 hW) _ 0 lives_scanP lives_chkP (by decide)
    ⟨by decide, fun t ht => by
      simp only [List.map_cons, List.map_nil, List.mem_cons, List.not_mem_nil, or_false] at ht
      rcases ht with rfl | rfl | rfl
      · exact ⟨fun h => absurd h (by decide), by decide⟩
      · exact ⟨fun h => absurd h (by decide), by decide⟩
      · exact ⟨fun h => absurd h (by decide), by decide⟩⟩ [⟨15, [], 0, 0, 1⟩, ⟨1, [97], 0, 1, 2⟩] ⟨0, [], 0, 2, 2⟩ 0 _ rfl rfl livesD)
  clear hE hc
  go_enter Tryd.func14, Tryd.ntmps14
  go_wp2_with fail
  refine HC1.out.mono ?_
  rintro e w1 ⟨hb1, he⟩
  rw [show checkS (⟨#[40, 40, 97, 41, 41, 94, 50, 94, 51]⟩ : ByteArray).data.toList = _ from lives_chk] at he
  subst he
  simp only []
  have HB1 := Lib.hid hb1
  clear hb1
  go_wp2_with fail
  refine (HPR.out w1 HB1.out).mono ?_
  rintro e w2 ⟨hb2, x, rfl, hx⟩
  have HB2 := Lib.hid (HB1.out.trans (hb2.mono HB1.out.size))
  clear hb2
  have hx2 : NdR w2 (rng w1.heap.size w2.heap.size) x (.mk 9 [] [] 0 bd0 bd0 [1] [ndLeaf 1 [] [97] 0]) := hx
  clear hx
  rcases hx2 with ⟨h1, h2, h3, h4⟩
  rename_i so sk nl
  obtain ⟨y, rfl⟩ := List.length_eq_one_iff.1 h3
  have hy := h4 0 y _ rfl rfl
  have hyt : y.text = [97] := by rcases hy with ⟨_, _, _, _⟩; rfl
  obtain ⟨oa, on, oc⟩ := so
  obtain ⟨ka, kn, kc⟩ := sk
  have hon : on = 1 := h1.1
  have hkn : kn = 1 := h2.1
  subst hon hkn
  obtain ⟨b, rfl, hbF, hbl, hc0, hcc⟩ := h2.nd0
  have hct := hcc 1 (.string (str y.text)) rfl
  rw [hyt] at hct
  have HCT := Lib.hid hct
  clear h1 h2 h3 h4 hy hyt hc0 hcc hct hbF
  have d2 : w2.cell? ⟨b.block, b.off + 2, none⟩ = some (.string ⟨#[97]⟩) := HCT.out
  unfold NV.val
  simp only []
  go_wp2
  go_ret
  exact ⟨rfl, HB2.out.alloc HB2.out.size _⟩
def SynEnv (w : World) (ea : List Addr) : Prop := ErrAt w 0 (errI ea 0) ∧ ErrAt w 16 (errI ea 1)
def synRows : List (String × List UInt8) := (errRows.filter fun x => x.1 == "concord/api.ErrSyntax") ++ (errRows.filter fun x => x.1 == "concord/api.ErrDeep")
theorem synEnv_of_rows {W : World} (h : laidMet Tryd.prog (synRows.map fun x => (x.1, errRow x.2)) W) : ∃ ea, SynEnv W ea := by
  obtain ⟨ps, h1, h2, h3⟩ := h
  obtain ⟨ea, g1, g2, g3, _⟩ := errsAt_of synRows [0, 16] ps (by kernel_rfl) (by
    have h : ([0, 16] : List Nat).all (fun g => (Tryd.prog.globals[g]?).map (·.type) == some 24) = true := by kernel_rfl
    intro g hg
    exact beq_iff_eq.1 (List.all_eq_true.1 h g hg)) h1 h2 h3
  match ea, g1 with
  | [a, b], g1 => exact ⟨[a, b], ⟨g1.1, World.block_lt_of_cell? W ⟨0, 0, none⟩ g1.1⟩, ⟨g1.2.2.1, World.block_lt_of_cell? W ⟨16, 0, none⟩ g1.2.2.1⟩⟩
theorem synEnv_of {W : World} {l : List (String × DataW Unit)} (h : laidMet Tryd.prog l W) (e : l.filter (fun x => (synRows.map (·.1)).contains x.1) = synRows.map fun x => (x.1, errRow x.2)) : ∃ ea, SynEnv W ea := by
  have := h.filter (fun x => (synRows.map (·.1)).contains x.1)
  rw [e] at this
  exact synEnv_of_rows this
end Go.Proofs.YtcomdkejpaoneaaDoor
end
section
namespace Go.Proofs.YtcomdkejpaoneaaDoor
open Go.RowKit
set_option maxRecDepth 100000
def clsLit : List Int := [0, 0, 0, 0, 0, 0, 0, 0, 0, 1, 1, 0, 0, 1, 0, 0, 0, 0, 0, 0, 0, 0, 0, 0, 0, 0, 0, 0, 0, 0, 0, 0, 1, 0, 2, 0, 0, 0, 0, 0, 2, 2, 3, 0, 0, 0, 0, 0, 0, 0, 0, 0, 0, 0, 0, 0, 0, 0, 2, 0, 0, 0, 0, 3, 2, 0, 0, 0, 0, 0, 0, 0, 0, 0, 0, 0, 0, 0, 0, 0, 0, 0, 0, 0, 0, 0, 0, 0, 0, 0, 0, 2, 4, 2, 2, 0, 0, 0, 0, 0, 0, 0, 0, 0, 0, 0, 0, 0, 0, 0, 0, 0, 0, 0, 0, 0, 0, 0, 0, 0, 0, 0, 0, 2, 2, 2, 2, 0]
theorem clsLit_eq : clsLit = clsTab := by decide
theorem gTab : Tryd.prog.globalNamed "concord/lexer.classes" = some 24 := by kernel_rfl
theorem gTabType : (Tryd.prog.globals[24]?).map (·.type) = some 117 := by kernel_rfl
theorem cellsTab : Tryd.prog.cellsOf 117 = 128 := by kernel_rfl
theorem cellsByte : Tryd.prog.cellsOf 5 = 1 := by kernel_rfl
theorem size_of_cell {w : World} {b o : Nat} {v : Value} (h : w.cell? ⟨b, o, none⟩ = some v) : b < w.heap.size := World.block_lt_of_cell? w ⟨b, o, none⟩ h
theorem cls_of_head {W : World} {rest : List (String × DataW Unit)} (h : laidMet Tryd.prog (("concord/lexer.classes", Rows.laid_concord_lexer_classes) :: rest) W) : ClsEnv W := by
  have ht : Lib.TabIs Tryd.prog W "concord/lexer.classes" .u8 clsLit := Lib.tabIs_of_head (rest := rest) gTab gTabType Tryd.underlying117 Tryd.underlying5 cellsByte cellsTab h
  have hc : ∀ j, j < 128 → W.cell? ⟨24, j, none⟩ = some (.int .u8 (clsTab.getD j 0)) := fun j hj => by
    rw [← clsLit_eq]; exact ht.cell gTab j (by rw [show clsLit.length = 128 from by decide]; exact hj)
  exact ⟨hc, size_of_cell (hc 0 (by decide))⟩
end Go.Proofs.YtcomdkejpaoneaaDoor
end
section
namespace Go.Proofs.YtcomdkejpaoneaaDoor
open Go.RowKit
set_option maxRecDepth 100000
set_option maxHeartbeats 4000000
set_option linter.unusedSimpArgs false
set_option linter.unusedVariables false
theorem kd_last (A : List Lt) (e : Lt) : kd (A ++ [e]) A.length = e.kind := by
  unfold kd
  rw [List.getElem?_append_right (Nat.le_refl _), Nat.sub_self]; rfl
theorem dvN_end {A : List Lt} {e : Lt} {x : Nat} (he : e.kind = 0) (h : DvN (A ++ [e]) x) : IsW .list A x := by
  unfold DvN at h
  rw [List.length_append, List.length_cons, List.length_nil, Nat.zero_add, Nat.add_sub_cancel, kd_last, pc_all] at h
  by_cases h2 : 2 ≤ A.length + 1
  · rw [if_pos ⟨h2, he⟩] at h; exact h
  · rw [if_neg (fun h => h2 h.1)] at h
    have hA : A = [] := List.eq_nil_of_length_eq_zero (by omega)
    exact .inr ⟨h, fun hd => dv_ne hd hA⟩
theorem oneway_plain {l : List UInt8} {la : List Lx} {x : Nat} (hs : scanL l = (la, none)) (hx : DvN (la.map Lx.lt) x) : (x = 1 ∧ ∃ n, checkS l = .inl n) ∨ (x = 0 ∧ ∃ p, checkS l = .inr p) := by
  obtain ⟨A, e, hA, he, hiff⟩ := check_dv hs
  rw [hA] at hx
  rcases dvN_end he hx with ⟨h1, h2⟩ | ⟨h1, h2⟩
  · exact .inl ⟨h1, hiff.2 h2⟩
  · refine .inr ⟨h1, ?_⟩
    cases hc : checkS l with
    | inl n => exact absurd (hiff.1 ⟨n, hc⟩) h2
    | inr p => exact ⟨p, rfl⟩
theorem oneway_walk (q : ByteArray) (w : World) (ea : List Addr) (hq : q.size ≤ 10000000) (hE : SynEnv w ea) (hc : ClsEnv w) :
    Calls Tryd.prog 6 #[.string q] w fun e w' => e = .returned (.bool true) ∧ Below w.heap.size w w' := by
  have HLV := Lib.hid (slives_at w ea 0 hE.1 hc)
  have HCK := Lib.hid (fun (W : World) (hW : Below w.heap.size w W) => scheck_any q W ea 0 hq (hc.belowB hc.2 hW) (hE.1.below hE.1.2 hW))
  have hz1 := fun W => errI_nnil ea 0 W
  have hz2 := fun op x y W => errI_guard0 ea 0 op x y W
  generalize errI ea 0 = v at *
  clear hE hc
  go_enter Tryd.func6, Tryd.ntmps6
  go_wp2_with fail
  refine HLV.out.mono ?_
  rintro e w1 ⟨rfl, hb1⟩
  have HB1 := Lib.hid hb1
  clear hb1
  go_wp2_with fail
  refine (ScanR_any q w1 hq).mono ?_
  rintro e w2 ⟨hb2, sl, ho, rfl⟩
  have HB2 := Lib.hid (HB1.out.trans (hb2.mono HB1.out.size))
  clear hb2
  cases hr : scanL q.data.toList with
  | mk la r =>
    rw [hr] at ho
    simp only [] at ho ⊢
    obtain ⟨A, cap, rfl, h1, h2, -⟩ := ho.open_
    cases r with
    | some p =>
      clear hr ho
      simp only [Option.getD_some, Option.isSome_some, if_true]
      go_wp2
      go_ret
      exact ⟨rfl, HB2.out⟩
    | none =>
      simp only [Option.getD_none, Option.isSome_none, Bool.false_eq_true, if_false]
      have HRD := Lib.hid (show RdL ltS w2 w2.heap.size (.slice A la.length cap) (la.map Lx.lt) from RdL.of_own ho.lt)
      have HQ := Lib.hid hr
      clear hr ho
      by_cases hbig : 41 < la.length
      · have hbg : decide ((41 : Int) < (la.length : Int)) = true := decide_eq_true (by omega)
        go_wp2
        go_ret
        exact ⟨rfl, HB2.out⟩
      · have hbg : decide ((41 : Int) < (la.length : Int)) = false := decide_eq_false (by omega)
        go_wp2_with fail
        refine (HCK.out w2 HB2.out).mono ?_
        rintro e w3 ⟨hb3, he⟩
        have HB3 := Lib.hid (HB2.out.trans (hb3.mono HB2.out.size))
        have HD := Lib.hid (show Calls Tryd.prog 22 #[.slice A la.length cap] w3 _ from by
          have h := derived_any (A := A) (cap := cap) (row := la.map Lx.lt) (by rw [List.length_map]; exact (HRD.out.below hb3).more hb3.size) (Nat.le_refl _) (by rw [List.length_map]; omega)
          rw [List.length_map] at h
          exact h)
        clear hb3 hbig
        cases hck : checkS q.data.toList with
        | inl n =>
          rw [hck] at he
          subst he
          have HCX := Lib.hid hck
          clear hck
          simp only []
          go_wp2_with fail
          refine HD.out.mono ?_
          rintro e w4 ⟨x, rfl, hx, hb4⟩
          obtain rfl : x = 1 := by
            rcases oneway_plain HQ.out hx with ⟨h, _⟩ | ⟨_, p, h⟩
            · exact h
            · rw [HCX.out] at h; cases h
          have HB4 := Lib.hid (HB3.out.trans (hb4.mono HB3.out.size))
          clear hb4 hx
          go_wp2
          go_ret
          exact ⟨rfl, HB4.out⟩
        | inr p =>
          rw [hck] at he
          subst he
          have HCX := Lib.hid hck
          clear hck
          simp only []
          go_wp2_with fail
          refine HD.out.mono ?_
          rintro e w4 ⟨x, rfl, hx, hb4⟩
          obtain rfl : x = 0 := by
            rcases oneway_plain HQ.out hx with ⟨_, n, h⟩ | ⟨h, _⟩
            · rw [HCX.out] at h; cases h
            · exact h
          have HB4 := Lib.hid (HB3.out.trans (hb4.mono HB3.out.size))
          clear hb4 hx
          go_wp2
          go_ret
          exact ⟨rfl, HB4.out⟩
theorem syntaxOneWay_env {W : World} (h : laidMetH Tryd.prog Rows.syntaxOneWayUptoRow.laid W) : ∃ ea, SynEnv W ea ∧ ClsEnv W := by
  have h0 : laidMet Tryd.prog Rows.syntaxOneWayUptoRow.laid W := h
  obtain ⟨ea, h1⟩ := synEnv_of h0 (by rfl)
  have h3 := h0.filter (fun x => x.1 == "concord/lexer.classes")
  exact ⟨ea, h1, cls_of_head (rest := []) h3⟩
theorem syntaxOneWay_walk (a0 : ByteArray) (w0 : a0.size ≤ 1048576) (w : World) (hE : ∃ ea, SynEnv w ea ∧ ClsEnv w) :
    Calls Tryd.prog 6 #[.string a0] w fun e w' => e = .returned (.bool true) ∧ Below w.heap.size w w' := by
  obtain ⟨ea, hE, hc⟩ := hE
  exact oneway_walk a0 w ea (by omega) hE hc
end Go.Proofs.YtcomdkejpaoneaaDoor
end
section
namespace Go.Proofs.YtcomdkejpaoneaaDoor
open Go.RowKit Go.ChangeShapes Go.WideShapes Go.Deep
set_option maxRecDepth 100000
theorem lxOne : oneCellFields Tryd.prog (Tryd.prog.fieldsOf 49) = true := by kernel_rfl
theorem lxCells : Tryd.prog.cellsOf 49 = (Tryd.prog.fieldsOf 49).size := by kernel_rfl
theorem lxSize : (Tryd.prog.fieldsOf 49).size = 5 := by kernel_rfl
theorem lxStruct : Tryd.prog.underlying 49 = some (.struct (Tryd.prog.fieldsOf 49)) := by kernel_rfl
theorem lxTypes : ((Tryd.prog.fieldsOf 49).map (·.type)).toList = [3, 9, 3, 3, 3] := by kernel_rfl
theorem lx_type (j : Nat) (t : TypeId) (h : [3, 9, 3, 3, 3][j]? = some t) : ∃ f, (Tryd.prog.fieldsOf 49)[j]? = some f ∧ f.type = t := by
  rw [← lxTypes, Array.getElem?_toList, Array.getElem?_map] at h
  obtain ⟨f, h1, h2⟩ := Option.map_eq_some_iff.1 h
  exact ⟨f, h1, h2⟩
theorem open_lexes {H : Type} {enc : TypeId × Value → H} {W : World} {v : Value} {d : DataW H} {p : List MemPlace} (hv : Value.okWide Tryd.prog W .any 0 42 v) (h0 : DataW.Trod enc Tryd.prog W 0 (fun _ => true) true 42 v d p) :
    ∃ (l : List Lt), RdL ltS W W.heap.size v l ∧ l.length ≤ Rows.uptoBulk d := by
  obtain ⟨fuel, h⟩ := h0
  have hlt := DataW.trod_lt fuel _ _ _ h
  rcases open_slice_fields Tryd.underlying42 lxStruct lxOne lxCells h with ⟨hc, hx⟩ | ⟨a, len, cap, m, D, Pl, hc, _, hl, hm, hmm, hx, hf⟩
  · have := slice_of_ok Tryd.underlying42 hv hc
    subst this
    exact ⟨[], RdL.nil _ _ _, by simp⟩
  · rw [if_pos rfl] at hmm
    obtain rfl : cap = m := hmm.symm
    have := slice_of_ok Tryd.underlying42 hv hc
    subst this
    simp only [Prod.mk.injEq] at hx
    obtain ⟨hd, hp⟩ := hx
    by_cases h0 : len = 0
    · subst h0
      exact ⟨[], ⟨some a, cap, rfl, hl, hm, fun h => (by simp at h), fun h => by cases h⟩, by simp⟩
    have hblk : a.block < W.heap.size := hlt (.cell a.block a.off) (by
      show MemPlace.cell a.block a.off ∈ p
      rw [hp]
      simp only [List.mem_append]
      left
      have : 0 < cap * (Tryd.prog.fieldsOf 49).size := Nat.mul_pos (by omega) (by rw [lxSize]; decide)
      simp only [MemPlace.row, List.mem_map, List.mem_range]
      exact ⟨0, this, rfl⟩)
    obtain ⟨l, h1, h2, h3⟩ := RdL.of_cells (S := ltS) ltOk (w := W) (B := W.heap.size) (a := a) (len := len) (cap := cap) hblk hl hm (fun i f => True) (by
      intro i hi
      obtain ⟨ys, n, hD, _, hyl, hfl⟩ := hf i (by omega)
      rw [lxSize] at hfl hyl
      obtain ⟨f0, g0, t0⟩ := lx_type 0 _ rfl
      obtain ⟨f1, g1, t1⟩ := lx_type 1 _ rfl
      obtain ⟨f2, g2, t2⟩ := lx_type 2 _ rfl
      obtain ⟨f3, g3, t3⟩ := lx_type 3 _ rfl
      obtain ⟨f4, g4, t4⟩ := lx_type 4 _ rfl
      obtain ⟨v0, y0, c0, hy0, r0⟩ := hfl 0 f0 g0
      obtain ⟨v1, y1, c1, hy1, r1⟩ := hfl 1 f1 g1
      obtain ⟨v2, y2, c2, hy2, r2⟩ := hfl 2 f2 g2
      obtain ⟨v3, y3, c3, hy3, r3⟩ := hfl 3 f3 g3
      obtain ⟨v4, y4, c4, hy4, r4⟩ := hfl 4 f4 g4
      rw [t0] at r0; rw [t1] at r1; rw [t2] at r2; rw [t3] at r3; rw [t4] at r4
      obtain ⟨k, e0, rfl, _⟩ := DataW.trod_int Tryd.underlying3 r0
      obtain ⟨s, e1, rfl, hs⟩ := DataW.trod_string Tryd.underlying9 r1
      obtain ⟨n2, e2, rfl, _⟩ := DataW.trod_int Tryd.underlying3 r2
      obtain ⟨n3, e3, rfl, _⟩ := DataW.trod_int Tryd.underlying3 r3
      obtain ⟨n4, e4, rfl, _⟩ := DataW.trod_int Tryd.underlying3 r4
      cases e0; cases e1; cases e2; cases e3; cases e4
      refine ⟨⟨k, s.data.toList, n2, n3, n4⟩, trivial, fun j u hj hu => ?_⟩
      have es : str s.data.toList = s := by unfold str; exact ba_ext rfl
      match j, hj, hu with
      | 0, _, hu => cases hu; exact c0
      | 1, _, hu => cases hu; rw [es]; exact c1
      | 2, _, hu => cases hu; exact c2
      | 3, _, hu => cases hu; exact c3
      | 4, _, hu => cases hu; exact c4)
    refine ⟨l, h2, ?_⟩
    have e := bulk_len ((List.range len).map D)
    have := bulk_slice ((List.range len).map D) ((List.range (cap - len)).map fun j => D (len + j))
    rw [List.length_map, List.length_range] at e
    rw [hd]
    exact Nat.le_trans (show l.length ≤ Rows.uptoBulkAll ((List.range len).map D) + 1 by omega) this
end Go.Proofs.YtcomdkejpaoneaaDoor
end
section
namespace Go.Proofs.YtcomdkejpaoneaaDoor
open Go.RowKit
set_option maxRecDepth 100000
set_option maxHeartbeats 8000000
set_option linter.unusedSimpArgs false
set_option linter.unusedVariables false
theorem RowAt.below {w w' : World} {g B : Nat} {v : Value} {m : Mc} (h : RowAt w g B v m) (hb : Below w.heap.size w w') : RowAt w' g B v m := ⟨h.blk.belowW hb, h.own.below hb, h.hg, Nat.le_trans h.hB hb.size⟩
theorem RowAt.kept {w w' : World} {g B B2 : Nat} {v u : Value} {m : Mc} {l : List Int} (h : RowAt w g B v m) (hu : OwnL folS w B2 u l) (hk : KeptBut w w' u) (hs : w.heap.size ≤ w'.heap.size) : RowAt w' g B v m :=
  ⟨h.blk.keptL hu (by decide) hk, h.own.keptL hu (by decide) hk, h.hg, Nat.le_trans h.hB hs⟩
end Go.Proofs.YtcomdkejpaoneaaDoor
end
section
namespace Go.Proofs.YtcomdkejpaoneaaDoor
open Go.RowKit
set_option maxRecDepth 100000
set_option maxHeartbeats 4000000
set_option linter.unusedSimpArgs false
set_option linter.unusedVariables false
def folA (ts : List Lt) : List Int := match runI mc0 0 ts with
  | .inl m => folL m 22
  | .inr _ => []
theorem folA_len (ts : List Lt) : (folA ts).length ≤ 22 := by
  unfold folA
  cases runI mc0 0 ts with
  | inl m => exact folL_len m 22
  | inr j => simp
theorem FolRet.list {ts : List Lt} {w w' : World} {e : Ending} (h : FolRet ts w e w') : Below w.heap.size w w' ∧ ∃ sl, e = .returned sl ∧ OwnL folS w' w.heap.size sl (folA ts) := by
  unfold FolRet at h
  refine ⟨h.1, ?_⟩
  have h2 := h.2
  unfold folA
  cases hr : runI mc0 0 ts with
  | inl m => rw [hr] at h2; exact h2
  | inr j => rw [hr] at h2; exact ⟨_, h2, OwnL.nil _ _ _⟩
end Go.Proofs.YtcomdkejpaoneaaDoor
end
section
namespace Go.Proofs.YtcomdkejpaoneaaDoor
open Go.RowKit
set_option maxRecDepth 100000
set_option maxHeartbeats 4000000
set_option linter.unusedSimpArgs false
set_option linter.unusedVariables false
theorem folA_dv (l : List Lt) : (0 : Int) ∈ folA l ↔ Dv .list l := by
  rw [← ends_dv]
  unfold folA
  cases hr : runI mc0 0 l with
  | inl m =>
    simp only []
    rw [folL_zero]
    constructor
    · intro h; exact ⟨m, rfl, h⟩
    · rintro ⟨m', e, h⟩
      injection e with e
      rw [e]; exact h
  | inr i =>
    simp only []
    constructor
    · intro h; cases h
    · rintro ⟨m', e, h⟩; cases e
theorem ends_walk (v : Value) (l : List Lt) (w : World) (ea : List Addr) (hv : RdL ltS w w.heap.size v l) (hl : l.length ≤ 10000000) (hE : SynEnv w ea) (hc : ClsEnv w) :
    Calls Tryd.prog 11 #[v] w fun e w' => e = .returned (.bool true) ∧ Below w.heap.size w w' := by
  have HLV := Lib.hid (slives_at w ea 0 hE.1 hc)
  have HV := Lib.hid (fun (W : World) (hW : Below w.heap.size w W) => ((hv.belowW (Nat.le_refl _) hW).more hW.size : RdL ltS W W.heap.size v l))
  have HF := Lib.hid (fun (W : World) (hW : Below w.heap.size w W) => (sfollow_any v l W (HV.out W hW) (by omega)).mono fun e w' h => h.list)
  obtain ⟨A0, cap0, rfl, _, _⟩ := hv.open_
  have hlen := folA_len l
  have HDV := Lib.hid (folA_dv l)
  clear hE hc hv
  go_enter Tryd.func11, Tryd.ntmps11
  go_wp2_with fail
  refine HLV.out.mono ?_
  rintro e w1 ⟨rfl, hb1⟩
  have HB1 := Lib.hid hb1
  clear hb1
  by_cases hbig : 40 < l.length
  · have hbg : decide ((40 : Int) < (l.length : Int)) = true := decide_eq_true (by omega)
    go_wp2
    go_ret
    exact ⟨rfl, HB1.out⟩
  · have hbg : decide ((40 : Int) < (l.length : Int)) = false := decide_eq_false (by omega)
    have HL0 := Lib.hid (OwnL.lit0 ltS w1 (Nat.le_refl _))
    have HR0 := Lib.hid (((HV.out w1 HB1.out).alloc (Nat.le_refl _) (.cells #[] 49)))
    have hz3 : w1.heap.size ≤ (w1.alloc (.cells #[] 49)).heap.size := by rw [World.size_alloc]; omega
    have hap1 : ([] : List Lt).length + l.length ≤ 100000000000 := by simp; omega
    have hap2 : l.length + 1 ≤ 100000000000 := by omega
    go_wp2_with (at_builtin; first
      | (refine OwnL.append ltOk HO4.out (⟨0, [], 0, 0, 0⟩ : Lt) rfl _ _ rfl rfl rfl _ rfl hz4 hap2 ?_; intro v5 w5 ho5 hb5; obtain ⟨A5, c5, rfl, -, -, -⟩ := ho5.open_; have HX5 := Lib.hid hb5; have HO5 := Lib.hid ho5; clear ho5 hb5)
      | (refine OwnL.appendRd ltOk HL0.out HR0.out rfl _ _ rfl rfl rfl hz3 hap1 ?_; intro v4 w4 ho4 hb4; rw [List.nil_append] at ho4; obtain ⟨A4, c4, rfl, -, -, -⟩ := ho4.open_; have HB4 := Lib.hid (((Below.refl w1.heap.size w1).alloc (Nat.le_refl _) (.cells #[] 49)).trans hb4); have HO4 := Lib.hid ho4; have hz4 := HB4.out.size; clear ho4 hb4))
    rw [List.length_append, List.length_singleton] at *
    have HB5 := Lib.hid (HB1.out.trans ((HB4.out.trans HX5.out).mono HB1.out.size))
    have HD5 := Lib.hid (show Calls Tryd.prog 22 #[.slice A5 (l.length + 1) c5] w5 (fun e w' => ∃ x : Nat, e = .returned (.int .i64 (x : Int)) ∧ DvN (l ++ [⟨0, [], 0, 0, 0⟩]) x ∧ Below w5.heap.size w5 w') from by
      have hrd := RdL.of_own HO5.out
      have hln : (l ++ [(⟨0, [], 0, 0, 0⟩ : Lt)]).length = l.length + 1 := by rw [List.length_append, List.length_singleton]
      have h := derived_any (w := w5) (B := w5.heap.size) (A := A5) (cap := c5) (row := l ++ [⟨0, [], 0, 0, 0⟩]) (by rw [hln]; exact hrd) (Nat.le_refl _) (by rw [hln]; omega)
      rw [hln] at h
      exact h)
    refine HD5.out.mono ?_
    rintro e w6 ⟨x, rfl, hx, hb6⟩
    have HX := Lib.hid (dvN_end rfl hx)
    have HB6 := Lib.hid (HB5.out.trans (hb6.mono HB5.out.size))
    clear hb6 hx
    go_wp2_with fail
    refine (HF.out w6 HB6.out).mono ?_
    rintro e w7 ⟨hb7, sl, rfl, ho⟩
    have HB7 := Lib.hid (HB6.out.trans (hb7.mono HB6.out.size))
    have HO7 := Lib.hid (RdL.of_own ho)
    clear hb7 ho
    obtain ⟨A7, c7, rfl, _, _⟩ := HO7.out.open_
    have HHS := Lib.hid (has_any (folA l) 0 w7 _ _ _ _ HO7.out (by omega))
    rcases HX.out with ⟨rfl, hd⟩ | ⟨rfl, hd⟩
    · have HH2 := Lib.hid (show Calls Tryd.prog 28 #[.slice A7 (folA l).length c7, .int .i64 0] w7 (fun e w' => e = .returned (.bool true) ∧ w7 = w') from HHS.out.mono fun e w' ⟨h1, h2⟩ => ⟨by rw [h1, decide_eq_true (HDV.out.2 hd)], h2.symm⟩)
      clear hd
      go_wp2_with ((with_reducible refine HH2.out.mono ?_); rintro e w' ⟨rfl, rfl⟩)
      go_ret
      exact ⟨rfl, HB7.out⟩
    · have HH2 := Lib.hid (show Calls Tryd.prog 28 #[.slice A7 (folA l).length c7, .int .i64 0] w7 (fun e w' => e = .returned (.bool false) ∧ w7 = w') from HHS.out.mono fun e w' ⟨h1, h2⟩ => ⟨by rw [h1, decide_eq_false (fun h => hd (HDV.out.1 h))], h2.symm⟩)
      clear hd
      go_wp2_with ((with_reducible refine HH2.out.mono ?_); rintro e w' ⟨rfl, rfl⟩)
      go_ret
      exact ⟨rfl, HB7.out⟩
theorem syntaxEnds_env {W : World} (h : laidMetH Tryd.prog Rows.syntaxEndsUptoRow.laid W) : ∃ ea, SynEnv W ea ∧ ClsEnv W := by
  have h0 : laidMet Tryd.prog Rows.syntaxEndsUptoRow.laid W := h
  obtain ⟨ea, h1⟩ := synEnv_of h0 (by rfl)
  have h3 := h0.filter (fun x => x.1 == "concord/lexer.classes")
  exact ⟨ea, h1, cls_of_head (rest := []) h3⟩
theorem syntaxEnds_walk (w : World) (v : Value) (l : List Lt) (hv : RdL ltS w w.heap.size v l) (hl : l.length ≤ 1048576) (hE : ∃ ea, SynEnv w ea ∧ ClsEnv w) :
    Calls Tryd.prog 11 #[v] w fun e w' => e = .returned (.bool true) ∧ Below w.heap.size w w' := by
  obtain ⟨ea, hE, hc⟩ := hE
  exact ends_walk v l w ea hv (by omega) hE hc
end Go.Proofs.YtcomdkejpaoneaaDoor
end
