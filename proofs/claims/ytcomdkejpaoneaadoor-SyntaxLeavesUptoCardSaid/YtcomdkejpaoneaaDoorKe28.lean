/- Merged for a claim by shake.py: Um Za -/
import Derived.Defers
import Derived.Recover
import Derived.Test.YtcomdkejpaoneaaDoorKe1
import Derived.Test.YtcomdkejpaoneaaDoorKe17
import Derived.Test.YtcomdkejpaoneaaDoorKe27
import Derived.Test.YtcomdkejpaoneaaDoorKe8
import Derived.Test.YtcomdkejpaoneaaDoorKe9
section
namespace Go.Proofs.YtcomdkejpaoneaaDoor
open Go.RowKit
set_option maxRecDepth 100000
set_option maxHeartbeats 4000000
set_option linter.unusedSimpArgs false
set_option linter.unusedVariables false
theorem pclose_idle (a0 a1 a2 : Value) (w : World) :
    CallsD Tryd.prog 34 #[a0, a1, a2] .returning w fun e u' w' => e = .returned (.tuple #[]) ∧ u' = .returning ∧ w' = w := by
  refine callsD_of_wpS Tryd.func34 rfl fun c₀ cs hu => ?_
  apply wpS_seq
  apply wpS_region
  simp [wpOpsS, go_sem, recoverD, hu, Tryd.ntmps34, Exit.thenS]
  refine wpS_of_wp ?_
  go_wp2
  cases c₀
  simp_all [bodyPostS, results, Tryd.results34]
theorem pscanned_ok (s : ByteArray) (w : World) (ea : List Addr) (ei : Nat) (hs : s.size ≤ 10000000) (hE : ClsEnv w) (hv : ErrAt w 0 (errI ea ei)) (la : List Lx) (n : Nat) (hr : scanL s.data.toList = (la, none)) (hc : checkS s.data.toList = .inl n) (hn : n ≤ 64) :
    Calls Tryd.prog 35 #[.string s] w fun e w' => Below w.heap.size w w' ∧ ∃ sl, e = .returned sl ∧ OwnL ltS w' w.heap.size sl (la.map Lx.lt) := by
  have hck := scheck_any s w ea ei hs hE hv
  rw [hc] at hck
  have HCK := Lib.hid hck
  have HSC := Lib.hid (fun (W : World) (hW : Below w.heap.size w W) => Scan_any s W (errI ea ei) hs (hE.belowB hE.2 hW) (hv.below hv.2 hW))
  have HR := Lib.hid hr
  have e64 : decide (64 < n) = false := by simp; omega
  clear hck hr hc hE hv
  go_enter Tryd.func35, Tryd.ntmps35
  go_wp2_with fail
  refine HCK.out.mono ?_
  rintro e w2 ⟨hb2, rfl⟩
  simp only []
  have HB2 := Lib.hid hb2
  clear hb2
  go_wp2_with fail
  refine (HSC.out w2 HB2.out).mono ?_
  rintro e w3 ⟨hb3, hm⟩
  rw [HR.out] at hm
  obtain ⟨sl, rfl, ho⟩ := hm
  have HB3 := Lib.hid (HB2.out.trans (hb3.mono HB2.out.size))
  have HO3 := Lib.hid (show OwnL ltS w3 w.heap.size sl (la.map Lx.lt) from ho.lt.more HB2.out.size)
  clear hb3 ho
  go_wp2
  go_ret
  exact ⟨HB3.out, _, rfl, HO3.out⟩
def ParRet (t : Nd) (w : World) (e : Ending) (w' : World) : Prop :=
  Below w.heap.size w w' ∧ ∃ x : NV, e = .returned (.tuple #[x.val, .int .i64 0, .nilIface]) ∧ NdR w' (rng w.heap.size w'.heap.size) x t
theorem pparse_ok (s : ByteArray) (w : World) (ea : List Addr) (ei : Nat) (hs : s.size ≤ 10000000) (hE : ClsEnv w) (hv : ErrAt w 0 (errI ea ei)) (la : List Lx) (n : Nat) (hr : scanL s.data.toList = (la, none)) (hc : checkS s.data.toList = .inl n) (hn : n ≤ 64)
    (hT : TkOk (la.map Lx.lt)) (A : List Lt) (e0 : Lt) (m : Nat) (v : Vl) (hA : la.map Lx.lt = A ++ [e0]) (he : e0.kind = 0) (hD : D .list A m v) :
    Calls Tryd.prog 18 #[.string s] w (ParRet (treeN (v [])) w) := by
  have hmf : ∀ (fn : Fn) (first cap : Array Value) (w : World), (Instr.makeFunc fn first cap).run Tryd.prog w = .ok (.func fn first cap) w := fun _ _ _ _ => rfl
  have hbw : Below w.heap.size w (((w.alloc (.cells #[.int .i64 0, .string ⟨#[]⟩, .string ⟨#[]⟩, .int .i64 0, .bool false, .bool false, .string ⟨#[]⟩, .bool false, .bool false, .string ⟨#[]⟩, .slice none 0 0, .slice none 0 0] 36)).alloc (.cells #[.int .i64 0] 3)).alloc (.cells #[.nilIface] 24)) :=
    (((Below.refl _ _).alloc (Nat.le_refl _) _).alloc (by rw [World.size_alloc]; omega) _).alloc (by rw [World.size_alloc, World.size_alloc]; omega) _
  have HB1 := Lib.hid hbw
  have HZ1 := Lib.hid (((Blk.new w 36 #[.int .i64 0, .string ⟨#[]⟩, .string ⟨#[]⟩, .int .i64 0, .bool false, .bool false, .string ⟨#[]⟩, .bool false, .bool false, .string ⟨#[]⟩, .slice none 0 0, .slice none 0 0]).alloc (.cells #[.int .i64 0] 3)).alloc (.cells #[.nilIface] 24))
  have HI1 := Lib.hid (show Blk (((w.alloc (.cells #[.int .i64 0, .string ⟨#[]⟩, .string ⟨#[]⟩, .int .i64 0, .bool false, .bool false, .string ⟨#[]⟩, .bool false, .bool false, .string ⟨#[]⟩, .slice none 0 0, .slice none 0 0] 36)).alloc (.cells #[.int .i64 0] 3)).alloc (.cells #[.nilIface] 24)) (w.heap.size + 1) 3 #[.int .i64 0] from by have h := (Blk.new (w.alloc (.cells #[.int .i64 0, .string ⟨#[]⟩, .string ⟨#[]⟩, .int .i64 0, .bool false, .bool false, .string ⟨#[]⟩, .bool false, .bool false, .string ⟨#[]⟩, .slice none 0 0, .slice none 0 0] 36)) 3 #[.int .i64 0]).alloc (.cells #[.nilIface] 24); rw [World.size_alloc] at h; exact h)
  have HN1 := Lib.hid (show Blk (((w.alloc (.cells #[.int .i64 0, .string ⟨#[]⟩, .string ⟨#[]⟩, .int .i64 0, .bool false, .bool false, .string ⟨#[]⟩, .bool false, .bool false, .string ⟨#[]⟩, .slice none 0 0, .slice none 0 0] 36)).alloc (.cells #[.int .i64 0] 3)).alloc (.cells #[.nilIface] 24)) (w.heap.size + 1 + 1) 24 #[.nilIface] from by have h := Blk.new ((w.alloc (.cells #[.int .i64 0, .string ⟨#[]⟩, .string ⟨#[]⟩, .int .i64 0, .bool false, .bool false, .string ⟨#[]⟩, .bool false, .bool false, .string ⟨#[]⟩, .slice none 0 0, .slice none 0 0] 36)).alloc (.cells #[.int .i64 0] 3)) 24 #[.nilIface]; rw [World.size_alloc, World.size_alloc] at h; exact h)
  have HW1 := Lib.hid (show (((w.alloc (.cells #[.int .i64 0, .string ⟨#[]⟩, .string ⟨#[]⟩, .int .i64 0, .bool false, .bool false, .string ⟨#[]⟩, .bool false, .bool false, .string ⟨#[]⟩, .slice none 0 0, .slice none 0 0] 36)).alloc (.cells #[.int .i64 0] 3)).alloc (.cells #[.nilIface] 24)).heap.size = w.heap.size + 3 from by rw [World.size_alloc, World.size_alloc, World.size_alloc])
  have HSC := Lib.hid (pscanned_ok s (((w.alloc (.cells #[.int .i64 0, .string ⟨#[]⟩, .string ⟨#[]⟩, .int .i64 0, .bool false, .bool false, .string ⟨#[]⟩, .bool false, .bool false, .string ⟨#[]⟩, .slice none 0 0, .slice none 0 0] 36)).alloc (.cells #[.int .i64 0] 3)).alloc (.cells #[.nilIface] 24)) ea ei hs (hE.belowB hE.2 hbw) (hv.below hv.2 hbw) la n hr hc hn)
  have HT := Lib.hid hT; have HA := Lib.hid hA; have HD := Lib.hid hD; have HE0 := Lib.hid he
  clear hbw hr hc hT hA hD he hE hv
  go_enter_defers Tryd.func18, Tryd.ntmps18
  go_wp2_with fail
  generalize ((w.alloc (.cells #[.int .i64 0, .string ⟨#[]⟩, .string ⟨#[]⟩, .int .i64 0, .bool false, .bool false, .string ⟨#[]⟩, .bool false, .bool false, .string ⟨#[]⟩, .slice none 0 0, .slice none 0 0] 36)).alloc (.cells #[.int .i64 0] 3)).alloc (.cells #[.nilIface] 24) = w1 at *
  refine HSC.out.mono ?_
  rintro e w3 ⟨hb3, sl, rfl, ho⟩
  obtain ⟨RA, rc, rfl, -, -⟩ := ho.form
  have HB3 := Lib.hid (HB1.out.trans (hb3.mono HB1.out.size))
  have HZ3 := Lib.hid (HZ1.out.belowW hb3); have HI3 := Lib.hid (HI1.out.belowW hb3); have HN3 := Lib.hid (HN1.out.belowW hb3)
  have HW3 := Lib.hid (show w.heap.size + 3 ≤ w3.heap.size from by have h1 := HW1.out; have h2 := hb3.size; omega)
  have HP4 := Lib.hid (show PsAt (w3.alloc (.cells #[.slice RA (la.map Lx.lt).length rc, .int .i64 0] 73)) w3.heap.size RA rc (la.map Lx.lt) 0 from ⟨Blk.new w3 _ _, (RdL.of_own ho).alloc (Nat.le_refl _) _⟩)
  clear hb3 ho
  rw [List.length_map] at HP4 ⊢
  have HB4 := Lib.hid (show Below w.heap.size w (w3.alloc (.cells #[.slice RA la.length rc, .int .i64 0] 73)) from HB3.out.alloc HB3.out.size _)
  have HZ4 := Lib.hid (HZ3.out.alloc (.cells #[.slice RA la.length rc, .int .i64 0] 73)); have HI4 := Lib.hid (HI3.out.alloc (.cells #[.slice RA la.length rc, .int .i64 0] 73)); have HN4 := Lib.hid (HN3.out.alloc (.cells #[.slice RA la.length rc, .int .i64 0] 73))
  have HPL := Lib.hid (show Calls Tryd.prog 37 #[.pointer (some ⟨w3.heap.size, 0, none⟩), .string ⟨#[]⟩] (w3.alloc (.cells #[.slice RA la.length rc, .int .i64 0] 73)) (LsRet w3.heap.size RA rc (la.map Lx.lt) (0 + A.length) (v []) (w3.alloc (.cells #[.slice RA la.length rc, .int .i64 0] 73))) from
    parts_ok HT.out (A.length + 1) A m v HD.out (Nat.lt_succ_self _) _ 0 [] [e0] (by rw [List.drop_zero]; exact HA.out) ⟨e0, [], rfl, .inl HE0.out⟩ HP4.out)
  have HS4 := Lib.hid (show (w3.alloc (.cells #[.slice RA la.length rc, .int .i64 0] 73)).heap.size = w3.heap.size + 1 from World.size_alloc _ _)
  go_wp2_with fail
  generalize w3.alloc (.cells #[.slice RA la.length rc, .int .i64 0] 73) = w4 at *
  refine HPL.out.mono ?_
  rintro e w5 ⟨hb5, hp5, ⟨ska, skn, skc⟩, ⟨soa, son, soc⟩, nl, rfl, hk5, ho5, hn5⟩
  have HB5 := Lib.hid (show Below w.heap.size w w5 from HB4.out.trans (hb5.below.mono HB3.out.size))
  have HZ5 := Lib.hid (HZ4.out.pb hb5 (by have := HW3.out; omega)); have HI5 := Lib.hid (HI4.out.pb hb5 (by have := HW3.out; omega)); have HN5 := Lib.hid (HN4.out.pb hb5 (by have := HW3.out; omega))
  have HTR := Lib.hid (ptree_any w5 (rng w4.heap.size w5.heap.size) ⟨ska, skn, skc⟩ ⟨soa, son, soc⟩ nl (v []) hk5 ho5 hn5 (fun b h => h.2))
  clear hb5 hp5 hk5 ho5 hn5
  go_wp2_with fail
  refine HTR.out.mono ?_
  rintro e w6 ⟨hb6, x, rfl, hx⟩
  obtain ⟨kd, fl, tx, xn, ⟨l1, l2, l3⟩, ⟨r1, r2, r3⟩, ⟨oa, on, oc⟩, ⟨ka, kn, kc⟩⟩ := x
  unfold NV.val
  simp only []
  have HB6 := Lib.hid (HB5.out.trans (hb6.mono HB5.out.size))
  have HX6 := Lib.hid hx
  have HF6 := Lib.hid (fun (b : Nat) (h : rng w4.heap.size w5.heap.size b) => (show w.heap.size + 2 < b ∧ b < w6.heap.size from ⟨by have h1 := HW3.out; have h2 := HS4.out; have := h.1; omega, Nat.lt_of_lt_of_le h.2 hb6.size⟩))
  have hzz := HZ5.out.belowW hb6
  have hii := HI5.out.belowW hb6
  have hnn := HN5.out.belowW hb6
  clear hb6 hx
  have z0 := hzz.cell 0; have z1 := hzz.cell 1; have z2 := hzz.cell 2; have z3 := hzz.cell 3; have z4 := hzz.cell 4; have z5 := hzz.cell 5; have z6 := hzz.cell 6; have z7 := hzz.cell 7; have z8 := hzz.cell 8; have z9 := hzz.cell 9; have z10 := hzz.cell 10; have z11 := hzz.cell 11
  have fz0 := hzz.frozen 0; have fz1 := hzz.frozen 1; have fz2 := hzz.frozen 2; have fz3 := hzz.frozen 3; have fz4 := hzz.frozen 4; have fz5 := hzz.frozen 5; have fz6 := hzz.frozen 6; have fz7 := hzz.frozen 7; have fz8 := hzz.frozen 8; have fz9 := hzz.frozen 9; have fz10 := hzz.frozen 10; have fz11 := hzz.frozen 11
  have i0 := hii.cell 0; have fi0 := hii.frozen 0; have n0 := hnn.cell 0; have fn0 := hnn.frozen 0
  have lz := hzz.lt; have li := hii.lt; have ln := hnn.lt
  simp only [List.getElem?_toArray, List.getElem?_cons_zero, List.getElem?_cons_succ] at z0 z1 z2 z3 z4 z5 z6 z7 z8 z9 z10 z11 i0 n0
  have HZ6 := Lib.hid hzz; have HI6 := Lib.hid hii; have HN6 := Lib.hid hnn
  clear hzz hii hnn
  go_wp2
  clear z0 z1 z2 z3 z4 z5 z6 z7 z8 z9 z10 z11 fz0 fz1 fz2 fz3 fz4 fz5 fz6 fz7 fz8 fz9 fz10 fz11 i0 fi0 n0 fn0 lz li ln
  have HZF := Lib.hid (show Blk ((((((((((((((w6.setCell ⟨w.heap.size, 0, none⟩ (.int .i64 kd)).setCell ⟨w.heap.size, 1, none⟩ (.string (str fl))).setCell ⟨w.heap.size, 2, none⟩ (.string (str tx))).setCell ⟨w.heap.size, 3, none⟩ (.int .i64 xn)).setCell ⟨w.heap.size, 4, none⟩ (.bool l1)).setCell ⟨w.heap.size, 5, none⟩ (.bool l2)).setCell ⟨w.heap.size, 6, none⟩ (.string (str l3))).setCell ⟨w.heap.size, 7, none⟩ (.bool r1)).setCell ⟨w.heap.size, 8, none⟩ (.bool r2)).setCell ⟨w.heap.size, 9, none⟩ (.string (str r3))).setCell ⟨w.heap.size, 10, none⟩ (.slice oa on oc)).setCell ⟨w.heap.size, 11, none⟩ (.slice ka kn kc)).setCell ⟨w.heap.size + 1, 0, none⟩ (.int .i64 0)).setCell ⟨w.heap.size + 1 + 1, 0, none⟩ .nilIface) w.heap.size 36 (NV.cells ⟨kd, fl, tx, xn, ⟨l1, l2, l3⟩, ⟨r1, r2, r3⟩, ⟨oa, on, oc⟩, ⟨ka, kn, kc⟩⟩).toArray from ((((Blk.set12 (x := ⟨0, [], [], 0, bd0, bd0, ⟨none, 0, 0⟩, ⟨none, 0, 0⟩⟩) (y := ⟨kd, fl, tx, xn, ⟨l1, l2, l3⟩, ⟨r1, r2, r3⟩, ⟨oa, on, oc⟩, ⟨ka, kn, kc⟩⟩) HZ6.out).far (p := ⟨w.heap.size + 1, 0, none⟩) (by show w.heap.size ≠ w.heap.size + 1; omega) _)).far (p := ⟨w.heap.size + 1 + 1, 0, none⟩) (by show w.heap.size ≠ w.heap.size + 1 + 1; omega) _))
  have HIF := Lib.hid (show Blk ((((((((((((((w6.setCell ⟨w.heap.size, 0, none⟩ (.int .i64 kd)).setCell ⟨w.heap.size, 1, none⟩ (.string (str fl))).setCell ⟨w.heap.size, 2, none⟩ (.string (str tx))).setCell ⟨w.heap.size, 3, none⟩ (.int .i64 xn)).setCell ⟨w.heap.size, 4, none⟩ (.bool l1)).setCell ⟨w.heap.size, 5, none⟩ (.bool l2)).setCell ⟨w.heap.size, 6, none⟩ (.string (str l3))).setCell ⟨w.heap.size, 7, none⟩ (.bool r1)).setCell ⟨w.heap.size, 8, none⟩ (.bool r2)).setCell ⟨w.heap.size, 9, none⟩ (.string (str r3))).setCell ⟨w.heap.size, 10, none⟩ (.slice oa on oc)).setCell ⟨w.heap.size, 11, none⟩ (.slice ka kn kc)).setCell ⟨w.heap.size + 1, 0, none⟩ (.int .i64 0)).setCell ⟨w.heap.size + 1 + 1, 0, none⟩ .nilIface) (w.heap.size + 1) 3 #[.int .i64 0] from ((HI6.out.off12 (z := w.heap.size) (y := ⟨kd, fl, tx, xn, ⟨l1, l2, l3⟩, ⟨r1, r2, r3⟩, ⟨oa, on, oc⟩, ⟨ka, kn, kc⟩⟩) (by omega)).set_ 0 (.int .i64 0)).far (p := ⟨w.heap.size + 1 + 1, 0, none⟩) (by show w.heap.size + 1 ≠ w.heap.size + 1 + 1; omega) _)
  have HNF := Lib.hid (show Blk ((((((((((((((w6.setCell ⟨w.heap.size, 0, none⟩ (.int .i64 kd)).setCell ⟨w.heap.size, 1, none⟩ (.string (str fl))).setCell ⟨w.heap.size, 2, none⟩ (.string (str tx))).setCell ⟨w.heap.size, 3, none⟩ (.int .i64 xn)).setCell ⟨w.heap.size, 4, none⟩ (.bool l1)).setCell ⟨w.heap.size, 5, none⟩ (.bool l2)).setCell ⟨w.heap.size, 6, none⟩ (.string (str l3))).setCell ⟨w.heap.size, 7, none⟩ (.bool r1)).setCell ⟨w.heap.size, 8, none⟩ (.bool r2)).setCell ⟨w.heap.size, 9, none⟩ (.string (str r3))).setCell ⟨w.heap.size, 10, none⟩ (.slice oa on oc)).setCell ⟨w.heap.size, 11, none⟩ (.slice ka kn kc)).setCell ⟨w.heap.size + 1, 0, none⟩ (.int .i64 0)).setCell ⟨w.heap.size + 1 + 1, 0, none⟩ .nilIface) (w.heap.size + 1 + 1) 24 #[.nilIface] from (((HN6.out.off12 (z := w.heap.size) (y := ⟨kd, fl, tx, xn, ⟨l1, l2, l3⟩, ⟨r1, r2, r3⟩, ⟨oa, on, oc⟩, ⟨ka, kn, kc⟩⟩) (by omega)).far (p := ⟨w.heap.size + 1, 0, none⟩) (by show w.heap.size + 1 + 1 ≠ w.heap.size + 1; omega) _).set_ 0 .nilIface))
  have HXF := Lib.hid (show NdR ((((((((((((((w6.setCell ⟨w.heap.size, 0, none⟩ (.int .i64 kd)).setCell ⟨w.heap.size, 1, none⟩ (.string (str fl))).setCell ⟨w.heap.size, 2, none⟩ (.string (str tx))).setCell ⟨w.heap.size, 3, none⟩ (.int .i64 xn)).setCell ⟨w.heap.size, 4, none⟩ (.bool l1)).setCell ⟨w.heap.size, 5, none⟩ (.bool l2)).setCell ⟨w.heap.size, 6, none⟩ (.string (str l3))).setCell ⟨w.heap.size, 7, none⟩ (.bool r1)).setCell ⟨w.heap.size, 8, none⟩ (.bool r2)).setCell ⟨w.heap.size, 9, none⟩ (.string (str r3))).setCell ⟨w.heap.size, 10, none⟩ (.slice oa on oc)).setCell ⟨w.heap.size, 11, none⟩ (.slice ka kn kc)).setCell ⟨w.heap.size + 1, 0, none⟩ (.int .i64 0)).setCell ⟨w.heap.size + 1 + 1, 0, none⟩ .nilIface) (rng w4.heap.size w5.heap.size) ⟨kd, fl, tx, xn, ⟨l1, l2, l3⟩, ⟨r1, r2, r3⟩, ⟨oa, on, oc⟩, ⟨ka, kn, kc⟩⟩ (treeN (v [])) from (HX6.out.set12 (z := w.heap.size) (y := ⟨kd, fl, tx, xn, ⟨l1, l2, l3⟩, ⟨r1, r2, r3⟩, ⟨oa, on, oc⟩, ⟨ka, kn, kc⟩⟩) (fun b h e => by have := (HF6.out b h).1; omega)).keep fun p hp _ => by
    have h := (HF6.out _ hp).1
    exact (World.cell?_of_block ((Below.heap_setCell _ ⟨w.heap.size + 1 + 1, 0, none⟩ _ p.block (by show p.block ≠ w.heap.size + 1 + 1; omega)).trans (Below.heap_setCell _ ⟨w.heap.size + 1, 0, none⟩ _ p.block (by show p.block ≠ w.heap.size + 1; omega)))))
  have hset : ∀ (W : World) (p : Addr) (u : Value), Below w.heap.size w W → w.heap.size ≤ p.block → Below w.heap.size w (W.setCell p u) := fun W p u h hp => h.setCell hp u
  have HBF := Lib.hid (show Below w.heap.size w ((((((((((((((w6.setCell ⟨w.heap.size, 0, none⟩ (.int .i64 kd)).setCell ⟨w.heap.size, 1, none⟩ (.string (str fl))).setCell ⟨w.heap.size, 2, none⟩ (.string (str tx))).setCell ⟨w.heap.size, 3, none⟩ (.int .i64 xn)).setCell ⟨w.heap.size, 4, none⟩ (.bool l1)).setCell ⟨w.heap.size, 5, none⟩ (.bool l2)).setCell ⟨w.heap.size, 6, none⟩ (.string (str l3))).setCell ⟨w.heap.size, 7, none⟩ (.bool r1)).setCell ⟨w.heap.size, 8, none⟩ (.bool r2)).setCell ⟨w.heap.size, 9, none⟩ (.string (str r3))).setCell ⟨w.heap.size, 10, none⟩ (.slice oa on oc)).setCell ⟨w.heap.size, 11, none⟩ (.slice ka kn kc)).setCell ⟨w.heap.size + 1, 0, none⟩ (.int .i64 0)).setCell ⟨w.heap.size + 1 + 1, 0, none⟩ .nilIface) from by
    repeat (first | with_reducible exact HB6.out | with_reducible refine hset _ _ _ ?_ (by first | exact Nat.le_refl _ | (show w.heap.size ≤ w.heap.size + 1; omega) | (show w.heap.size ≤ w.heap.size + 1 + 1; omega))))
  have HSF := Lib.hid (show ((((((((((((((w6.setCell ⟨w.heap.size, 0, none⟩ (.int .i64 kd)).setCell ⟨w.heap.size, 1, none⟩ (.string (str fl))).setCell ⟨w.heap.size, 2, none⟩ (.string (str tx))).setCell ⟨w.heap.size, 3, none⟩ (.int .i64 xn)).setCell ⟨w.heap.size, 4, none⟩ (.bool l1)).setCell ⟨w.heap.size, 5, none⟩ (.bool l2)).setCell ⟨w.heap.size, 6, none⟩ (.string (str l3))).setCell ⟨w.heap.size, 7, none⟩ (.bool r1)).setCell ⟨w.heap.size, 8, none⟩ (.bool r2)).setCell ⟨w.heap.size, 9, none⟩ (.string (str r3))).setCell ⟨w.heap.size, 10, none⟩ (.slice oa on oc)).setCell ⟨w.heap.size, 11, none⟩ (.slice ka kn kc)).setCell ⟨w.heap.size + 1, 0, none⟩ (.int .i64 0)).setCell ⟨w.heap.size + 1 + 1, 0, none⟩ .nilIface).heap.size = w6.heap.size from by simp only [set_size])
  clear hset
  generalize ((((((((((((((w6.setCell ⟨w.heap.size, 0, none⟩ (.int .i64 kd)).setCell ⟨w.heap.size, 1, none⟩ (.string (str fl))).setCell ⟨w.heap.size, 2, none⟩ (.string (str tx))).setCell ⟨w.heap.size, 3, none⟩ (.int .i64 xn)).setCell ⟨w.heap.size, 4, none⟩ (.bool l1)).setCell ⟨w.heap.size, 5, none⟩ (.bool l2)).setCell ⟨w.heap.size, 6, none⟩ (.string (str l3))).setCell ⟨w.heap.size, 7, none⟩ (.bool r1)).setCell ⟨w.heap.size, 8, none⟩ (.bool r2)).setCell ⟨w.heap.size, 9, none⟩ (.string (str r3))).setCell ⟨w.heap.size, 10, none⟩ (.slice oa on oc)).setCell ⟨w.heap.size, 11, none⟩ (.slice ka kn kc)).setCell ⟨w.heap.size + 1, 0, none⟩ (.int .i64 0)).setCell ⟨w.heap.size + 1 + 1, 0, none⟩ .nilIface) = wf at *
  refine leaves_cons (f := 34) (args := #[.pointer (some ⟨w.heap.size, 0, none⟩), .pointer (some ⟨w.heap.size + 1, 0, none⟩), .pointer (some ⟨w.heap.size + 1 + 1, 0, none⟩)]) (by simp) (by simp [go_sem]) ?_
  refine (pclose_idle _ _ _ wf).mono ?_
  rintro e u' w'' ⟨rfl, rfl, rfl⟩
  have hzz := HZF.out
  have z0 := hzz.cell 0; have z1 := hzz.cell 1; have z2 := hzz.cell 2; have z3 := hzz.cell 3; have z4 := hzz.cell 4; have z5 := hzz.cell 5; have z6 := hzz.cell 6; have z7 := hzz.cell 7; have z8 := hzz.cell 8; have z9 := hzz.cell 9; have z10 := hzz.cell 10; have z11 := hzz.cell 11
  have i0 := HIF.out.cell 0; have n0 := HNF.out.cell 0
  unfold NV.cells at z0 z1 z2 z3 z4 z5 z6 z7 z8 z9 z10 z11
  simp only [List.getElem?_toArray, List.getElem?_cons_zero, List.getElem?_cons_succ] at z0 z1 z2 z3 z4 z5 z6 z7 z8 z9 z10 z11 i0 n0
  clear hzz
  simp [Leaves, settle, results, Tryd.results18, go_sem, z0, z1, z2, z3, z4, z5, z6, z7, z8, z9, z10, z11, i0, n0]
  exact ⟨HBF.out, ⟨kd, fl, tx, xn, ⟨l1, l2, l3⟩, ⟨r1, r2, r3⟩, ⟨oa, on, oc⟩, ⟨ka, kn, kc⟩⟩, rfl, HXF.out.mono fun b h => ⟨by have := (HF6.out b h).1; omega, by rw [HSF.out]; exact (HF6.out b h).2⟩⟩
end Go.Proofs.YtcomdkejpaoneaaDoor
end
section
namespace Go.Proofs.YtcomdkejpaoneaaDoor
open Go.RowKit
set_option maxRecDepth 100000
set_option maxHeartbeats 8000000
set_option linter.unusedSimpArgs false
set_option linter.unusedVariables false
theorem bd_in (a b : Bool) (t : ByteArray) (W : World) : (Op.equalIn 10000 32 (.agg #[.bool a, .bool b, .string t]) (.agg #[.bool a, .bool b, .string t])).run Tryd.prog W = .ok true W := by
  rw [run_equalIn_agg W 9999 32 _ _ (show Tryd.prog.underlying 32 = some (.struct (Tryd.prog.fieldsOf 32)) from by kernel_rfl) (by kernel_rfl)]
  simp only [Program.fieldsOf, Tryd.underlying32]
  simp [Op.eqFields, go_sem, Tryd.underlying4, Tryd.underlying9]
theorem bd_ne (a b : Bool) (t : ByteArray) (W : World) : (binOp .neq 32 (.agg #[.bool a, .bool b, .string t]) (.agg #[.bool a, .bool b, .string t])).run Tryd.prog W = .ok (.bool false) W := by
  have h := bd_in a b t W
  rw [run_neq_struct, h]; rfl
theorem bd_guard (a b : Bool) (t : ByteArray) (op : BinOp) (x y : Operand) (W : World) : (eqGuard op 32 x y (.agg #[.bool a, .bool b, .string t]) (.agg #[.bool a, .bool b, .string t])).run Tryd.prog W = .ok () W :=
  run_eqGuard_agg W op 32 x y _ _ (by kernel_rfl)
theorem RdF.inW {α : Type} {S : Shape α} {w : World} {F : Nat → Prop} {s : Sl} {l : List α} (h : RdF S w F s l) (hS : S.Ok) : RdF S w (fun b => b < w.heap.size) s l := by
  obtain ⟨h1, h2, h3, h4, h5⟩ := h
  refine ⟨h1, h2, h3, fun hn => ?_, h5⟩
  obtain ⟨a, e, hb, hc⟩ := h4 hn
  refine ⟨a, e, ?_, hc⟩
  have hl : 0 < (S.cells l).length := by rw [Shape.cells_length hS]; exact Nat.mul_pos hn hS.pos
  have h6 := hc 0 _ (List.getElem?_eq_getElem hl)
  have := World.block_lt_of_cell? w _ h6
  rw [block_of_add] at this; exact this
theorem at_ndk {w : World} {F : Nat → Prop} {A : Option Addr} {n c : Nat} {l : List NV} (h : RdF ndS w F ⟨A, n, c⟩ l) {k : Nat} (hk : k < l.length) : ∃ a, A = some a ∧ (a.add (k * 12)).block < w.heap.size
    ∧ w.cell? (a.add (k * 12)) = some (.int .i64 l[k].kind)
    ∧ w.cell? ⟨(a.add (k * 12)).block, (a.add (k * 12)).off + 1, none⟩ = some (.string (str l[k].field))
    ∧ w.cell? ⟨(a.add (k * 12)).block, (a.add (k * 12)).off + 2, none⟩ = some (.string (str l[k].text))
    ∧ w.cell? ⟨(a.add (k * 12)).block, (a.add (k * 12)).off + 3, none⟩ = some (.int .i64 l[k].n)
    ∧ w.cell? ⟨(a.add (k * 12)).block, (a.add (k * 12)).off + 4, none⟩ = some (.bool l[k].lo.open_)
    ∧ w.cell? ⟨(a.add (k * 12)).block, (a.add (k * 12)).off + 5, none⟩ = some (.bool l[k].lo.in_)
    ∧ w.cell? ⟨(a.add (k * 12)).block, (a.add (k * 12)).off + 6, none⟩ = some (.string (str l[k].lo.text))
    ∧ w.cell? ⟨(a.add (k * 12)).block, (a.add (k * 12)).off + 7, none⟩ = some (.bool l[k].hi.open_)
    ∧ w.cell? ⟨(a.add (k * 12)).block, (a.add (k * 12)).off + 8, none⟩ = some (.bool l[k].hi.in_)
    ∧ w.cell? ⟨(a.add (k * 12)).block, (a.add (k * 12)).off + 9, none⟩ = some (.string (str l[k].hi.text))
    ∧ w.cell? ⟨(a.add (k * 12)).block, (a.add (k * 12)).off + 10, none⟩ = some (.slice l[k].occ.a l[k].occ.n l[k].occ.c)
    ∧ w.cell? ⟨(a.add (k * 12)).block, (a.add (k * 12)).off + 11, none⟩ = some (.slice l[k].kids.a l[k].kids.n l[k].kids.c) := by
  obtain ⟨a, e, hb, h0, hj⟩ := (((h.inW ndOk).rd (fun _ h => h)).at2 ndOk hk)
  refine ⟨a, e, hb, h0 _ rfl, hj 0 _ (by decide) rfl, hj 1 _ (by decide) rfl, hj 2 _ (by decide) rfl, hj 3 _ (by decide) rfl, hj 4 _ (by decide) rfl, hj 5 _ (by decide) rfl, hj 6 _ (by decide) rfl, hj 7 _ (by decide) rfl, hj 8 _ (by decide) rfl, hj 9 _ (by decide) rfl, hj 10 _ (by decide) rfl⟩
theorem at_occ {w : World} {F : Nat → Prop} {A : Option Addr} {n c : Nat} {l : List Int} (h : RdF folS w F ⟨A, n, c⟩ l) {k : Nat} (hk : k < l.length) : ∃ a, A = some a ∧ w.cell? (a.add k) = some (.int .i64 l[k]) := by
  obtain ⟨a, e, hb, h0, hj⟩ := (((h.inW folOk).rd (fun _ h => h)).at2 folOk hk)
  have h1 := h0 _ rfl
  exact ⟨a, e, by simpa [folS] using h1⟩
def SamRet (w : World) (e : Ending) (w' : World) : Prop := e = .returned (.bool true) ∧ Below w.heap.size w w'
def SamOk (t : Nd) : Prop := ∀ (w : World) (F G : Nat → Prop) (x y : NV), NdR w F x t → NdR w G y t → Calls Tryd.prog 20 #[x.val, y.val] w (SamRet w)
def OccRel (wb : World) (n : Nat) (iv : Value) (wr : World) : Prop := ∃ k : Nat, k ≤ n ∧ iv = .int .i64 (k : Int) ∧ Below wb.heap.size wb wr
theorem same_of (kind n : Int) (field text : List UInt8) (lo hi : Bd) (occ : List Int) (kids : List Nd) (ih : ∀ t ∈ kids, SamOk t) : SamOk (.mk kind field text n lo hi occ kids) := by
  intro w F G x y hx hy
  cases hx with
  | @mk _ _ _ _ _ _ so sk _ nl _ hso hsk hnl hall =>
  cases hy with
  | @mk _ _ _ _ _ _ so2 sk2 _ nl2 _ hso2 hsk2 hnl2 hall2 =>
  obtain ⟨oa, on, oc⟩ := so; obtain ⟨ka, kn, kc⟩ := sk
  obtain ⟨oa2, on2, oc2⟩ := so2; obtain ⟨ka2, kn2, kc2⟩ := sk2
  obtain ⟨l1, l2, l3⟩ := lo; obtain ⟨r1, r2, r3⟩ := hi
  obtain rfl : on = occ.length := hso.1
  obtain rfl : on2 = occ.length := hso2.1
  obtain rfl : kn = kids.length := hsk.1.trans hnl
  obtain rfl : kn2 = kids.length := hsk2.1.trans hnl2
  have HON := Lib.hid (Nat.le_trans hso.2.1 hso.2.2.1)
  have HKN := Lib.hid (Nat.le_trans hsk.2.1 hsk.2.2.1)
  have honb : occ.length ≤ 9223372036854775807 := by have := HON.out; unfold maxLen at this; omega
  have hknb : kids.length ≤ 9223372036854775807 := by have := HKN.out; unfold maxLen at this; omega
  have HB2 := Lib.hid (show Below w.heap.size w ((w.alloc (.cells #[.int .i64 kind, .string (str field), .string (str text), .int .i64 n, .bool l1, .bool l2, .string (str l3), .bool r1, .bool r2, .string (str r3), .slice oa occ.length oc, .slice ka kids.length kc] 36)).alloc (.cells #[.int .i64 kind, .string (str field), .string (str text), .int .i64 n, .bool l1, .bool l2, .string (str l3), .bool r1, .bool r2, .string (str r3), .slice oa2 occ.length oc2, .slice ka2 kids.length kc2] 36)) from ((Below.refl _ _).alloc (Nat.le_refl _) _).alloc (by rw [World.size_alloc]; omega) _)
  have hnew := fun (cs : Array Value) (t : TypeId) (W : World) => Blk.new W t cs
  have HX2 := Lib.hid ((hnew _ 36 w).alloc (.cells #[.int .i64 kind, .string (str field), .string (str text), .int .i64 n, .bool l1, .bool l2, .string (str l3), .bool r1, .bool r2, .string (str r3), .slice oa2 occ.length oc2, .slice ka2 kids.length kc2] 36) : Blk ((w.alloc (.cells #[.int .i64 kind, .string (str field), .string (str text), .int .i64 n, .bool l1, .bool l2, .string (str l3), .bool r1, .bool r2, .string (str r3), .slice oa occ.length oc, .slice ka kids.length kc] 36)).alloc (.cells #[.int .i64 kind, .string (str field), .string (str text), .int .i64 n, .bool l1, .bool l2, .string (str l3), .bool r1, .bool r2, .string (str r3), .slice oa2 occ.length oc2, .slice ka2 kids.length kc2] 36)) w.heap.size 36 #[.int .i64 kind, .string (str field), .string (str text), .int .i64 n, .bool l1, .bool l2, .string (str l3), .bool r1, .bool r2, .string (str r3), .slice oa occ.length oc, .slice ka kids.length kc])
  have HY2 := Lib.hid (show Blk ((w.alloc (.cells #[.int .i64 kind, .string (str field), .string (str text), .int .i64 n, .bool l1, .bool l2, .string (str l3), .bool r1, .bool r2, .string (str r3), .slice oa occ.length oc, .slice ka kids.length kc] 36)).alloc (.cells #[.int .i64 kind, .string (str field), .string (str text), .int .i64 n, .bool l1, .bool l2, .string (str l3), .bool r1, .bool r2, .string (str r3), .slice oa2 occ.length oc2, .slice ka2 kids.length kc2] 36)) (w.heap.size + 1) 36 #[.int .i64 kind, .string (str field), .string (str text), .int .i64 n, .bool l1, .bool l2, .string (str l3), .bool r1, .bool r2, .string (str r3), .slice oa2 occ.length oc2, .slice ka2 kids.length kc2] from by have h := hnew #[.int .i64 kind, .string (str field), .string (str text), .int .i64 n, .bool l1, .bool l2, .string (str l3), .bool r1, .bool r2, .string (str r3), .slice oa2 occ.length oc2, .slice ka2 kids.length kc2] 36 (w.alloc (.cells #[.int .i64 kind, .string (str field), .string (str text), .int .i64 n, .bool l1, .bool l2, .string (str l3), .bool r1, .bool r2, .string (str r3), .slice oa occ.length oc, .slice ka kids.length kc] 36)); rw [World.size_alloc] at h; exact h)
  have HSO := Lib.hid (hso.belowW HB2.out); have HSO2 := Lib.hid (hso2.belowW HB2.out); have HSK := Lib.hid (hsk.belowW HB2.out); have HSK2 := Lib.hid (hsk2.belowW HB2.out)
  have HNL := Lib.hid hnl; have HNL2 := Lib.hid hnl2
  have HALL := Lib.hid (fun (i : Nat) (x : NV) (t : Nd) (h1 : nl[i]? = some x) (h2 : kids[i]? = some t) => (hall i x t h1 h2).belowW HB2.out)
  have HALL2 := Lib.hid (fun (i : Nat) (x : NV) (t : Nd) (h1 : nl2[i]? = some x) (h2 : kids[i]? = some t) => (hall2 i x t h1 h2).belowW HB2.out)
  have HIH := Lib.hid ih
  have hbn1 := fun W => bd_ne l1 l2 (str l3) W
  have hbn2 := fun W => bd_ne r1 r2 (str r3) W
  have hbg1 := fun op a b W => bd_guard l1 l2 (str l3) op a b W
  have hbg2 := fun op a b W => bd_guard r1 r2 (str r3) op a b W
  clear hso hso2 hsk hsk2 hnl hnl2 hall hall2 ih hnew
  unfold NV.val
  simp only []
  go_enter Tryd.func20, Tryd.ntmps20
  go_wp2_with fail
  generalize ((w.alloc (.cells #[.int .i64 kind, .string (str field), .string (str text), .int .i64 n, .bool l1, .bool l2, .string (str l3), .bool r1, .bool r2, .string (str r3), .slice oa occ.length oc, .slice ka kids.length kc] 36)).alloc (.cells #[.int .i64 kind, .string (str field), .string (str text), .int .i64 n, .bool l1, .bool l2, .string (str l3), .bool r1, .bool r2, .string (str r3), .slice oa2 occ.length oc2, .slice ka2 kids.length kc2] 36)) = w2 at *
  go_loopw [67] (fun iv wr => OccRel w2 occ.length iv wr) (fun iv _ => occ.length - (intOf iv).toNat)
  case atStart => exact ⟨0, Nat.zero_le _, rfl, Below.refl _ _⟩
  case round =>
    obtain ⟨k, hk, rfl, hb⟩ := hrel
    have HBR := Lib.hid hb
    have x10 := (HX2.out.belowW hb).cell 10; have x11 := (HX2.out.belowW hb).cell 11
    have y10 := (HY2.out.belowW hb).cell 10; have y11 := (HY2.out.belowW hb).cell 11
    simp only [List.getElem?_toArray, List.getElem?_cons_zero, List.getElem?_cons_succ] at x10 x11 y10 y11
    clear hb
    by_cases hlt : k < occ.length
    · obtain ⟨a, rfl, q0⟩ := at_occ (HSO.out.belowW HBR.out) hlt
      obtain ⟨a2, rfl, p0⟩ := at_occ (HSO2.out.belowW HBR.out) hlt
      generalize occ[k] = z at *
      go_wp2_with fail
      go_quiet (fail)
      go_wp2
      go_roundw
      case rel => exact ⟨k + 1, by omega, by go_num, below_drewN HBR.out _⟩
      case measure => simp [intOf]; omega
    · go_wp2_with fail
      clear x10 x11 y10 y11 hlt hk
      go_loopw [85] (fun iv wr => OccRel w2 kids.length iv wr) (fun iv _ => kids.length - (intOf iv).toNat)
      case atStart => exact ⟨0, Nat.zero_le _, rfl, HBR.out⟩
      case round =>
        obtain ⟨k, hk, rfl, hb⟩ := hrel
        have HBR := Lib.hid hb
        have x11 := (HX2.out.belowW hb).cell 11; have y11 := (HY2.out.belowW hb).cell 11
        have lx := (HX2.out.belowW hb).lt; have ly := (HY2.out.belowW hb).lt
        simp only [List.getElem?_toArray, List.getElem?_cons_zero, List.getElem?_cons_succ] at x11 y11
        clear hb
        by_cases hlt : k < kids.length
        · have hk1 : k < nl.length := by rw [HNL.out]; exact hlt
          have hk2 : k < nl2.length := by rw [HNL2.out]; exact hlt
          obtain ⟨a, rfl, hab, q0, q1, q2, q3, q4, q5, q6, q7, q8, q9, q10, q11⟩ := at_ndk (HSK.out.belowW HBR.out) hk1
          obtain ⟨a2, rfl, hab2, p0, p1, p2, p3, p4, p5, p6, p7, p8, p9, p10, p11⟩ := at_ndk (HSK2.out.belowW HBR.out) hk2
          have hx := (HALL.out k nl[k] kids[k] (List.getElem?_eq_getElem hk1) (List.getElem?_eq_getElem hlt)).belowW HBR.out
          have hy := (HALL2.out k nl2[k] kids[k] (List.getElem?_eq_getElem hk2) (List.getElem?_eq_getElem hlt)).belowW HBR.out
          have hc := HIH.out kids[k] (List.getElem_mem hlt)
          generalize kids[k] = t at hx hy hc
          generalize nl[k] = x at *
          generalize nl2[k] = y at *
          obtain ⟨kd3, fl3, tx3, xn3, ⟨la3, lb3, lc3⟩, ⟨ra3, rb3, rc3⟩, ⟨oa3, on3, oc3⟩, ⟨ka3, kn3, kc3⟩⟩ := x
          obtain ⟨kd4, fl4, tx4, xn4, ⟨la4, lb4, lc4⟩, ⟨ra4, rb4, rc4⟩, ⟨oa4, on4, oc4⟩, ⟨ka4, kn4, kc4⟩⟩ := y
          simp only [] at q0 q1 q2 q3 q4 q5 q6 q7 q8 q9 q10 q11 p0 p1 p2 p3 p4 p5 p6 p7 p8 p9 p10 p11
          have HCC := Lib.hid (fun (W : World) (hW : Below wr.heap.size wr W) => (hc W _ _ _ _ (hx.belowW hW) (hy.belowW hW)).mono (fun e w' (h : SamRet W e w') => (show e = .returned (.bool true) ∧ Below wr.heap.size wr w' from ⟨h.1, hW.trans (h.2.mono hW.size)⟩)))
          unfold NV.val at HCC
          simp only [] at HCC
          have HSF := Lib.hid (fun (W : World) (hW : Below wr.heap.size wr W) => (show W.cell? ⟨w.heap.size, 11, none⟩ = some (.slice (some a) kids.length kc) ∧ W.cell? ⟨w.heap.size + 1, 11, none⟩ = some (.slice (some a2) kids.length kc2) ∧ W.cell? (a.add (k * 12)) = some (.int .i64 kd3) ∧ W.cell? ⟨(a.add (k * 12)).block, (a.add (k * 12)).off + 1, none⟩ = some (.string (str fl3)) ∧ W.cell? ⟨(a.add (k * 12)).block, (a.add (k * 12)).off + 2, none⟩ = some (.string (str tx3)) ∧ W.cell? ⟨(a.add (k * 12)).block, (a.add (k * 12)).off + 3, none⟩ = some (.int .i64 xn3) ∧ W.cell? ⟨(a.add (k * 12)).block, (a.add (k * 12)).off + 4, none⟩ = some (.bool la3) ∧ W.cell? ⟨(a.add (k * 12)).block, (a.add (k * 12)).off + 5, none⟩ = some (.bool lb3) ∧ W.cell? ⟨(a.add (k * 12)).block, (a.add (k * 12)).off + 6, none⟩ = some (.string (str lc3)) ∧ W.cell? ⟨(a.add (k * 12)).block, (a.add (k * 12)).off + 7, none⟩ = some (.bool ra3) ∧ W.cell? ⟨(a.add (k * 12)).block, (a.add (k * 12)).off + 8, none⟩ = some (.bool rb3) ∧ W.cell? ⟨(a.add (k * 12)).block, (a.add (k * 12)).off + 9, none⟩ = some (.string (str rc3)) ∧ W.cell? ⟨(a.add (k * 12)).block, (a.add (k * 12)).off + 10, none⟩ = some (.slice oa3 on3 oc3) ∧ W.cell? ⟨(a.add (k * 12)).block, (a.add (k * 12)).off + 11, none⟩ = some (.slice ka3 kn3 kc3) ∧ W.cell? (a2.add (k * 12)) = some (.int .i64 kd4) ∧ W.cell? ⟨(a2.add (k * 12)).block, (a2.add (k * 12)).off + 1, none⟩ = some (.string (str fl4)) ∧ W.cell? ⟨(a2.add (k * 12)).block, (a2.add (k * 12)).off + 2, none⟩ = some (.string (str tx4)) ∧ W.cell? ⟨(a2.add (k * 12)).block, (a2.add (k * 12)).off + 3, none⟩ = some (.int .i64 xn4) ∧ W.cell? ⟨(a2.add (k * 12)).block, (a2.add (k * 12)).off + 4, none⟩ = some (.bool la4) ∧ W.cell? ⟨(a2.add (k * 12)).block, (a2.add (k * 12)).off + 5, none⟩ = some (.bool lb4) ∧ W.cell? ⟨(a2.add (k * 12)).block, (a2.add (k * 12)).off + 6, none⟩ = some (.string (str lc4)) ∧ W.cell? ⟨(a2.add (k * 12)).block, (a2.add (k * 12)).off + 7, none⟩ = some (.bool ra4) ∧ W.cell? ⟨(a2.add (k * 12)).block, (a2.add (k * 12)).off + 8, none⟩ = some (.bool rb4) ∧ W.cell? ⟨(a2.add (k * 12)).block, (a2.add (k * 12)).off + 9, none⟩ = some (.string (str rc4)) ∧ W.cell? ⟨(a2.add (k * 12)).block, (a2.add (k * 12)).off + 10, none⟩ = some (.slice oa4 on4 oc4) ∧ W.cell? ⟨(a2.add (k * 12)).block, (a2.add (k * 12)).off + 11, none⟩ = some (.slice ka4 kn4 kc4) ∧ Below wr.heap.size wr W from
            ⟨(hW.cell (p := ⟨w.heap.size, 11, none⟩) lx).trans x11, (hW.cell (p := ⟨w.heap.size + 1, 11, none⟩) ly).trans y11, (hW.cell (p := a.add (k * 12)) hab).trans q0, (hW.cell (p := ⟨(a.add (k * 12)).block, (a.add (k * 12)).off + 1, none⟩) hab).trans q1, (hW.cell (p := ⟨(a.add (k * 12)).block, (a.add (k * 12)).off + 2, none⟩) hab).trans q2, (hW.cell (p := ⟨(a.add (k * 12)).block, (a.add (k * 12)).off + 3, none⟩) hab).trans q3, (hW.cell (p := ⟨(a.add (k * 12)).block, (a.add (k * 12)).off + 4, none⟩) hab).trans q4, (hW.cell (p := ⟨(a.add (k * 12)).block, (a.add (k * 12)).off + 5, none⟩) hab).trans q5, (hW.cell (p := ⟨(a.add (k * 12)).block, (a.add (k * 12)).off + 6, none⟩) hab).trans q6, (hW.cell (p := ⟨(a.add (k * 12)).block, (a.add (k * 12)).off + 7, none⟩) hab).trans q7, (hW.cell (p := ⟨(a.add (k * 12)).block, (a.add (k * 12)).off + 8, none⟩) hab).trans q8, (hW.cell (p := ⟨(a.add (k * 12)).block, (a.add (k * 12)).off + 9, none⟩) hab).trans q9, (hW.cell (p := ⟨(a.add (k * 12)).block, (a.add (k * 12)).off + 10, none⟩) hab).trans q10, (hW.cell (p := ⟨(a.add (k * 12)).block, (a.add (k * 12)).off + 11, none⟩) hab).trans q11, (hW.cell (p := a2.add (k * 12)) hab2).trans p0, (hW.cell (p := ⟨(a2.add (k * 12)).block, (a2.add (k * 12)).off + 1, none⟩) hab2).trans p1, (hW.cell (p := ⟨(a2.add (k * 12)).block, (a2.add (k * 12)).off + 2, none⟩) hab2).trans p2, (hW.cell (p := ⟨(a2.add (k * 12)).block, (a2.add (k * 12)).off + 3, none⟩) hab2).trans p3, (hW.cell (p := ⟨(a2.add (k * 12)).block, (a2.add (k * 12)).off + 4, none⟩) hab2).trans p4, (hW.cell (p := ⟨(a2.add (k * 12)).block, (a2.add (k * 12)).off + 5, none⟩) hab2).trans p5, (hW.cell (p := ⟨(a2.add (k * 12)).block, (a2.add (k * 12)).off + 6, none⟩) hab2).trans p6, (hW.cell (p := ⟨(a2.add (k * 12)).block, (a2.add (k * 12)).off + 7, none⟩) hab2).trans p7, (hW.cell (p := ⟨(a2.add (k * 12)).block, (a2.add (k * 12)).off + 8, none⟩) hab2).trans p8, (hW.cell (p := ⟨(a2.add (k * 12)).block, (a2.add (k * 12)).off + 9, none⟩) hab2).trans p9, (hW.cell (p := ⟨(a2.add (k * 12)).block, (a2.add (k * 12)).off + 10, none⟩) hab2).trans p10, (hW.cell (p := ⟨(a2.add (k * 12)).block, (a2.add (k * 12)).off + 11, none⟩) hab2).trans p11, hW⟩))
          clear x11 y11 q0 q1 q2 q3 q4 q5 q6 q7 q8 q9 q10 q11 p0 p1 p2 p3 p4 p5 p6 p7 p8 p9 p10 p11 hx hy hc
          go_wp2_with fail
          go_region_held3 (fun W => W.cell? ⟨w.heap.size, 11, none⟩ = some (.slice (some a) kids.length kc) ∧ W.cell? ⟨w.heap.size + 1, 11, none⟩ = some (.slice (some a2) kids.length kc2) ∧ W.cell? (a.add (k * 12)) = some (.int .i64 kd3) ∧ W.cell? ⟨(a.add (k * 12)).block, (a.add (k * 12)).off + 1, none⟩ = some (.string (str fl3)) ∧ W.cell? ⟨(a.add (k * 12)).block, (a.add (k * 12)).off + 2, none⟩ = some (.string (str tx3)) ∧ W.cell? ⟨(a.add (k * 12)).block, (a.add (k * 12)).off + 3, none⟩ = some (.int .i64 xn3) ∧ W.cell? ⟨(a.add (k * 12)).block, (a.add (k * 12)).off + 4, none⟩ = some (.bool la3) ∧ W.cell? ⟨(a.add (k * 12)).block, (a.add (k * 12)).off + 5, none⟩ = some (.bool lb3) ∧ W.cell? ⟨(a.add (k * 12)).block, (a.add (k * 12)).off + 6, none⟩ = some (.string (str lc3)) ∧ W.cell? ⟨(a.add (k * 12)).block, (a.add (k * 12)).off + 7, none⟩ = some (.bool ra3) ∧ W.cell? ⟨(a.add (k * 12)).block, (a.add (k * 12)).off + 8, none⟩ = some (.bool rb3) ∧ W.cell? ⟨(a.add (k * 12)).block, (a.add (k * 12)).off + 9, none⟩ = some (.string (str rc3)) ∧ W.cell? ⟨(a.add (k * 12)).block, (a.add (k * 12)).off + 10, none⟩ = some (.slice oa3 on3 oc3) ∧ W.cell? ⟨(a.add (k * 12)).block, (a.add (k * 12)).off + 11, none⟩ = some (.slice ka3 kn3 kc3) ∧ W.cell? (a2.add (k * 12)) = some (.int .i64 kd4) ∧ W.cell? ⟨(a2.add (k * 12)).block, (a2.add (k * 12)).off + 1, none⟩ = some (.string (str fl4)) ∧ W.cell? ⟨(a2.add (k * 12)).block, (a2.add (k * 12)).off + 2, none⟩ = some (.string (str tx4)) ∧ W.cell? ⟨(a2.add (k * 12)).block, (a2.add (k * 12)).off + 3, none⟩ = some (.int .i64 xn4) ∧ W.cell? ⟨(a2.add (k * 12)).block, (a2.add (k * 12)).off + 4, none⟩ = some (.bool la4) ∧ W.cell? ⟨(a2.add (k * 12)).block, (a2.add (k * 12)).off + 5, none⟩ = some (.bool lb4) ∧ W.cell? ⟨(a2.add (k * 12)).block, (a2.add (k * 12)).off + 6, none⟩ = some (.string (str lc4)) ∧ W.cell? ⟨(a2.add (k * 12)).block, (a2.add (k * 12)).off + 7, none⟩ = some (.bool ra4) ∧ W.cell? ⟨(a2.add (k * 12)).block, (a2.add (k * 12)).off + 8, none⟩ = some (.bool rb4) ∧ W.cell? ⟨(a2.add (k * 12)).block, (a2.add (k * 12)).off + 9, none⟩ = some (.string (str rc4)) ∧ W.cell? ⟨(a2.add (k * 12)).block, (a2.add (k * 12)).off + 10, none⟩ = some (.slice oa4 on4 oc4) ∧ W.cell? ⟨(a2.add (k * 12)).block, (a2.add (k * 12)).off + 11, none⟩ = some (.slice ka4 kn4 kc4) ∧ Below wr.heap.size wr W) (exact HSF.out _ (by repeat (first | assumption | exact Below.refl _ _ | with_reducible refine Below.drew ?_))) (((with_reducible refine (HCC.out _ ?_).mono ?_); (repeat (first | assumption | exact Below.refl _ _ | with_reducible refine Below.drew ?_)); (rintro e w' ⟨rfl, hk1⟩)))
          rename_i hfin
          have HBF := Lib.hid (show Below w2.heap.size w2 _ from HBR.out.trans (hfin.2.2.2.2.2.2.2.2.2.2.2.2.2.2.2.2.2.2.2.2.2.2.2.2.2.2.mono HBR.out.size))
          clear hfin
          go_wp2
          go_roundw
          case rel => exact ⟨k + 1, by omega, by go_num, HBF.out⟩
          case measure => simp [intOf]; omega
        · go_wp2
          go_ret
          exact ⟨rfl, HB2.out.trans (HBR.out.mono HB2.out.size)⟩
theorem same_all (t : Nd) : SamOk t := by
  have h : ∀ (N : Nat) (t : Nd), SizeOf.sizeOf t ≤ N → SamOk t := by
    intro N
    induction N with
    | zero => intro t ht; cases t; simp at ht
    | succ N ih =>
      intro t ht
      cases t with
      | mk kind field text n lo hi occ kids =>
        refine same_of _ _ _ _ _ _ _ _ fun u hu => ih u ?_
        have := List.sizeOf_lt_of_mem hu
        simp at ht; omega
  exact h (SizeOf.sizeOf t) t (Nat.le_refl _)
end Go.Proofs.YtcomdkejpaoneaaDoor
end
