/- Merged for a claim by shake.py: Di -/
import Derived.Test.YtcomdkejpaoneaaDoorKfA
import Derived.Test.YtcomdkejpaoneaaDoorKf42
section
namespace Go.Proofs.YtcomdkejpaoneaaDoor
open Go.RowKit
set_option maxRecDepth 100000
set_option maxHeartbeats 8000000
set_option linter.unusedSimpArgs false
set_option linter.unusedVariables false
theorem set12_below {z B : Nat} {w w' : World} {y : NV} (h : Below B w w') (hz : B ≤ z) : Below B w (set12 w' z y) := by
 unfold set12
 repeat (first | with_reducible exact h | with_reducible refine Below.setCell ?_ hz _)
theorem RRet.box {v : List (Int × Nd)} {w W : World} {x : NV} {t : Nd} {F : Nat → Prop} (hb : Below w.heap.size w W) (hv : v = [(0, t)]) (hx : NdR W F x t) (hF : ∀ b, F b → w.heap.size < b ∧ b < W.heap.size) : RRet v w (.returned x.val) (set12 W w.heap.size x) :=
 ⟨set12_below hb (Nat.le_refl _), x, t, rfl, hv, (hx.set12 (fun b h => by have := (hF b h).1; omega)).mono (fun b h => by rw [rng, set12_size]; have := hF b h; omega)⟩
theorem RRet.drw {v : List (Int × Nd)} {w W : World} {e : Ending} (h : RRet v w e W) : RRet v w e W.drew := by
 obtain ⟨hb, x, t, he, hv, hx⟩ := h
 exact ⟨hb.drew, x, t, he, hv, hx.keep fun _ _ _ => rfl⟩
theorem RRet.box1 {v : List (Int × Nd)} {w W : World} {o1 : Obj} {x : NV} {t : Nd} {F : Nat → Prop} (hz : w.heap.size < W.heap.size) (hb : Below w.heap.size w (W.alloc o1)) (hv : v = [(0, t)]) (hx : NdR (W.alloc o1) F x t) (hF : ∀ b, F b → w.heap.size < b ∧ b < (W.alloc o1).heap.size) : RRet v w (.returned x.val) ((set12 W w.heap.size x).alloc o1) := by
 rw [set12_alloc hz]
 exact RRet.box hb hv hx hF
theorem RRet.box2 {v : List (Int × Nd)} {w W : World} {o1 o2 : Obj} {x : NV} {t : Nd} {F : Nat → Prop} (hz : w.heap.size < W.heap.size) (hb : Below w.heap.size w ((W.alloc o1).alloc o2)) (hv : v = [(0, t)]) (hx : NdR ((W.alloc o1).alloc o2) F x t) (hF : ∀ b, F b → w.heap.size < b ∧ b < ((W.alloc o1).alloc o2).heap.size) : RRet v w (.returned x.val) (((set12 W w.heap.size x).alloc o1).alloc o2) := by
 rw [set12_alloc hz]
 exact RRet.box1 (by rw [World.size_alloc]; omega) hb hv hx hF
theorem rneg_not (t : Lt) (r : List Lt) (n : Nat) (v : Vl) (M : Nat) (w : World) (B : Nat) (A : Option Addr) (k cap : Nat) (f : List UInt8) (h : RdL ltS w B (.slice A k cap) (t :: r)) (hB : B ≤ w.heap.size) (hD : D .unary r n v) (hT : TnOk (t :: r)) (hlen : r.length < M) (hN : NegOk M) (ht : t.kind = 6) :
  Calls Tryd.prog 88 #[.slice A k cap, .string (str f)] w (RRet [((0 : Int), ndKids 13 0 ((v f).map (·.2)))] w) := by
 have hk : k = r.length + 1 := by
  obtain ⟨A', cap', e, -, -⟩ := h.open_
  injection e with e1 e2 e3
  all_goals (first | exact e2 | (rw [e2]; simp))
 subst hk
 have HR1 := LH (h.belowW hB ((Below.refl _ _).alloc (Nat.le_refl _) zO))
 have HZ1 := LH (Blk.new w 36 zA)
 have HB1 := LH (show Below w.heap.size w (w.alloc zO) from (Below.refl _ _).alloc (Nat.le_refl _) zO)
 have HSW := LH (show B ≤ (w.alloc zO).heap.size from Nat.le_trans hB HB1.out.size)
 have HSL := LH (show w.heap.size < (w.alloc zO).heap.size from by rw [World.size_alloc]; omega)
 obtain ⟨pa, pq, hpr, hrun⟩ := lt_from HR1.out (i := 1) (by simp)
 have hrun2 : ∀ W, (Instr.slice 42 (.slice A (r.length + 1) cap) (some (.int .i64 1)) none none).run Tryd.prog W = .ok (.slice pa r.length pq) W := hrun
 clear hrun
 have HPR := LH (show RdL ltS (w.alloc zO) B (.slice pa r.length pq) r from hpr)
 clear hpr
 obtain ⟨a, rfl, hab, c0, -, -, -, -⟩ := at_lt HR1.out (show 0 < (t :: r).length from Nat.succ_pos _)
 have ea : a.add (0 * 5) = a := by simp [Addr.add]
 simp only [List.getElem_cons_zero, ea, ht] at c0 hab
 have HNN := LH (fun (W : World) (hW : RdL ltS W B (.slice pa r.length pq) r) (hS : B ≤ W.heap.size) => hN r n v hD (hT.sub (fun x hx => List.mem_cons_of_mem _ hx)) hlen W B pa r.length pq f hW hS)
 clear ea h hB hD hT hlen hN ht
 go_enter Tryd.func88, Tryd.ntmps88
 go_wp2_with fail
 clear c0
 generalize w.alloc zO = w1 at *
 refine (HNN.out w1 HPR.out HSW.out).mono ?_
 rintro e w5 ⟨hb5, x, t5, rfl, hv, hx⟩
 obtain ⟨kd, fl, tx, xn, ⟨l1, l2, l3⟩, ⟨r1, r2, r3⟩, ⟨oa, on, oc⟩, ⟨ka, kn, kc⟩⟩ := x
 unfold NV.val
 simp only []
 have HV := LH (show [((0 : Int), ndKids 13 0 ((v f).map (·.2)))] = [(0, ndKids 13 0 [t5])] from by rw [show v f = [(0, t5)] from hv]; rfl)
 have HS5 := LH hb5.size
 have HB5 := LH (HB1.out.trans (hb5.mono HB1.out.size))
 have HZ5 := LH (HZ1.out.below hb5 HSL.out)
 have HX5 := LH (hx.mono (G := fun b => w.heap.size < b ∧ b < w5.heap.size) (fun b h => ⟨Nat.lt_of_lt_of_le HSL.out h.1, h.2⟩))
 clear hb5 hx hv
 have HB7 := LH ((HB5.out.alloc (Nat.le_trans HB1.out.size HS5.out) (.cells #[.int .i64 kd, .string (str fl), .string (str tx), .int .i64 xn, .bool l1, .bool l2, .string (str l3), .bool r1, .bool r2, .string (str r3), .slice oa on oc, .slice ka kn kc] 36)).alloc (by rw [World.size_alloc]; have := HS5.out; have := HB1.out.size; omega) (.cells #[.int .i64 kd, .string (str fl), .string (str tx), .int .i64 xn, .bool l1, .bool l2, .string (str l3), .bool r1, .bool r2, .string (str r3), .slice oa on oc, .slice ka kn kc] 36))
 have HG7 := LH (show ((w5.alloc (.cells #[.int .i64 kd, .string (str fl), .string (str tx), .int .i64 xn, .bool l1, .bool l2, .string (str l3), .bool r1, .bool r2, .string (str r3), .slice oa on oc, .slice ka kn kc] 36)).alloc (.cells #[.int .i64 kd, .string (str fl), .string (str tx), .int .i64 xn, .bool l1, .bool l2, .string (str l3), .bool r1, .bool r2, .string (str r3), .slice oa on oc, .slice ka kn kc] 36)).heap.size = w5.heap.size + 2 from by rw [World.size_alloc, World.size_alloc])
 have HG5 := LH (show w.heap.size < w5.heap.size from Nat.lt_of_lt_of_le HSL.out HS5.out)
 have HK7 := LH (show Blk ((w5.alloc (.cells #[.int .i64 kd, .string (str fl), .string (str tx), .int .i64 xn, .bool l1, .bool l2, .string (str l3), .bool r1, .bool r2, .string (str r3), .slice oa on oc, .slice ka kn kc] 36)).alloc (.cells #[.int .i64 kd, .string (str fl), .string (str tx), .int .i64 xn, .bool l1, .bool l2, .string (str l3), .bool r1, .bool r2, .string (str r3), .slice oa on oc, .slice ka kn kc] 36)) (w5.heap.size + 1) 36 (NV.cells ⟨kd, fl, tx, xn, ⟨l1, l2, l3⟩, ⟨r1, r2, r3⟩, ⟨oa, on, oc⟩, ⟨ka, kn, kc⟩⟩).toArray from by
  have h := Blk.new (w5.alloc (.cells #[.int .i64 kd, .string (str fl), .string (str tx), .int .i64 xn, .bool l1, .bool l2, .string (str l3), .bool r1, .bool r2, .string (str r3), .slice oa on oc, .slice ka kn kc] 36)) 36 (NV.cells ⟨kd, fl, tx, xn, ⟨l1, l2, l3⟩, ⟨r1, r2, r3⟩, ⟨oa, on, oc⟩, ⟨ka, kn, kc⟩⟩).toArray
  rw [World.size_alloc] at h
  exact h)
 have HN7 := LH ((HX5.out.belowW (((Below.refl w5.heap.size w5).alloc (Nat.le_refl _) (.cells #[.int .i64 kd, .string (str fl), .string (str tx), .int .i64 xn, .bool l1, .bool l2, .string (str l3), .bool r1, .bool r2, .string (str r3), .slice oa on oc, .slice ka kn kc] 36)).alloc (by rw [World.size_alloc]; omega) (.cells #[.int .i64 kd, .string (str fl), .string (str tx), .int .i64 xn, .bool l1, .bool l2, .string (str l3), .bool r1, .bool r2, .string (str r3), .slice oa on oc, .slice ka kn kc] 36))).mono (G := fun b => w.heap.size < b ∧ b < ((w5.alloc (.cells #[.int .i64 kd, .string (str fl), .string (str tx), .int .i64 xn, .bool l1, .bool l2, .string (str l3), .bool r1, .bool r2, .string (str r3), .slice oa on oc, .slice ka kn kc] 36)).alloc (.cells #[.int .i64 kd, .string (str fl), .string (str tx), .int .i64 xn, .bool l1, .bool l2, .string (str l3), .bool r1, .bool r2, .string (str r3), .slice oa on oc, .slice ka kn kc] 36)).heap.size) (fun b h => ⟨h.1, by rw [HG7.out]; have := h.2; omega⟩))
 have hzz := HZ5.out
 obtain ⟨z0, z1, z2, z3, z4, z5, z6, z7, z8, z9, z10, z11, fz0, fz1, fz2, fz3, fz4, fz5, fz6, fz7, fz8, fz9, fz10, fz11, lz⟩ := blk12 hzz; (try simp only [World.size_alloc] at lz)
 clear hzz
 go_wp2
 refine bodyPost_ret (v := NV.val ⟨13, [], [], 0, bd0, bd0, ⟨none, 0, 0⟩, ⟨some ⟨w5.heap.size + 1, 0, none⟩, 1, 1⟩⟩) ?_ rfl ?_
 ·simp [results, Tryd.results88, go_sem, NV.val, bd0, str, lz, fz0, fz1, fz2, fz3, fz4, fz5, fz6, fz7, fz8, fz9, fz10, fz11, z0, z1, z2, z3, z4, z5, z6, z7, z8, z9, z10, z11]
 ·exact RRet.box2 HG5.out HB7.out HV.out (nd_kid HK7.out ⟨by have := HG5.out; omega, by rw [HG7.out]; omega⟩ HN7.out) (fun b h => h)
theorem rneg_boost (t b : Lt) (s0 A0 : List Lt) (n : Nat) (v : Vl) (M : Nat) (w : World) (B : Nat) (A : Option Addr) (k cap : Nat) (f : List UInt8) (h : RdL ltS w B (.slice A k cap) (t :: s0)) (hB : B ≤ w.heap.size) (hA : t :: s0 = A0 ++ [b]) (hD : D .unary A0 n v) (hT : TnOk A0) (hlen : A0.length < M) (hN : NegOk M) (ht : t.kind ≠ 6) (hb : b.kind = 18) (hl8 : A0.length ≤ 100000000) :
  Calls Tryd.prog 88 #[.slice A k cap, .string (str f)] w (RRet [((0 : Int), ndKids 14 b.n ((v f).map (·.2)))] w) := by
 have hlen0 : s0.length = A0.length := by
  have := congrArg List.length hA
  simpa using this
 obtain ⟨m, hm⟩ : ∃ m, m = s0.length := ⟨_, rfl⟩
 have hm2 : A0.length = m := by rw [hm]; exact hlen0.symm
 have hk : k = m + 1 := by
  obtain ⟨A', cap', e, -, -⟩ := h.open_
  injection e with e1 e2 e3
  all_goals rw [e2, List.length_cons, hm]
 subst hk
 have HR1 := LH (h.belowW hB ((Below.refl _ _).alloc (Nat.le_refl _) zO))
 have HZ1 := LH (Blk.new w 36 zA)
 have HB1 := LH (show Below w.heap.size w (w.alloc zO) from (Below.refl _ _).alloc (Nat.le_refl _) zO)
 have HSW := LH (show B ≤ (w.alloc zO).heap.size from Nat.le_trans hB HB1.out.size)
 have HSL := LH (show w.heap.size < (w.alloc zO).heap.size from by rw [World.size_alloc]; omega)
 obtain ⟨pq, hpr, hrun⟩ := lt_upto HR1.out (j := m) (by rw [List.length_cons]; omega)
 have HPR := LH (show RdL ltS (w.alloc zO) B (.slice A m pq) A0 from by
  rw [hA, ← hm2, List.take_left] at hpr
  rw [← hm2]; exact hpr)
 clear hpr
 obtain ⟨a, rfl⟩ := some_of_rd HR1.out
 have HTB := LH (show (t :: s0)[m]? = some b from by rw [hA, ← hm2, List.getElem?_append_right (Nat.le_refl _), Nat.sub_self]; rfl)
 obtain ⟨hb0, c0, -, -, -, -⟩ := at_lt2 HR1.out a rfl 0 t rfl
 obtain ⟨hbm, d0, -, d2, -, -⟩ := at_lt2 HR1.out a rfl m b HTB.out
 have ea : a.add (0 * 5) = a := by simp [Addr.add]
 rw [ea] at c0
 rw [hb] at d0
 have hx6 : (t.kind == 6) = false := by simpa using ht
 have HNN := LH (fun (W : World) (hW : RdL ltS W B (.slice (some a) m pq) A0) (hS : B ≤ W.heap.size) => hN A0 n v hD hT hlen W B (some a) m pq f hW hS)
 have HM8 := LH (show m ≤ 100000000 from by omega)
 have hm8 : m ≤ 100000000 := HM8.out
 clear ea h hB hD hT hlen hN ht hm hm2 hlen0 hl8
 go_enter Tryd.func88, Tryd.ntmps88
 go_wp2_with fail
 clear c0 d0 d2 hx6
 generalize w.alloc zO = w1 at *
 refine (HNN.out w1 HPR.out HSW.out).mono ?_
 rintro e w5 ⟨hb5, x, t5, rfl, hv, hx⟩
 obtain ⟨kd, fl, tx, xn, ⟨l1, l2, l3⟩, ⟨r1, r2, r3⟩, ⟨oa, on, oc⟩, ⟨ka, kn, kc⟩⟩ := x
 unfold NV.val
 simp only []
 have HV := LH (show [((0 : Int), ndKids 14 b.n ((v f).map (·.2)))] = [(0, ndKids 14 b.n [t5])] from by rw [show v f = [(0, t5)] from hv]; rfl)
 have HS5 := LH hb5.size
 have HB5 := LH (HB1.out.trans (hb5.mono HB1.out.size))
 have HZ5 := LH (HZ1.out.below hb5 HSL.out)
 have HX5 := LH (hx.mono (G := fun b => w.heap.size < b ∧ b < w5.heap.size) (fun b h => ⟨Nat.lt_of_lt_of_le HSL.out h.1, h.2⟩))
 have HR5 := LH ((HR1.out.belowW HSW.out hb5))
 have HW5 := LH (show B ≤ w5.heap.size from Nat.le_trans HSW.out hb5.size)
 clear hb5 hx hv
 have HR6 := LH (HR5.out.belowW HW5.out ((Below.refl _ _).alloc (Nat.le_refl _) (.cells #[.int .i64 kd, .string (str fl), .string (str tx), .int .i64 xn, .bool l1, .bool l2, .string (str l3), .bool r1, .bool r2, .string (str r3), .slice oa on oc, .slice ka kn kc] 36)))
 have HZ6 := LH (HZ5.out.alloc (.cells #[.int .i64 kd, .string (str fl), .string (str tx), .int .i64 xn, .bool l1, .bool l2, .string (str l3), .bool r1, .bool r2, .string (str r3), .slice oa on oc, .slice ka kn kc] 36))
 have HX6 := LH (Blk.new w5 36 #[.int .i64 kd, .string (str fl), .string (str tx), .int .i64 xn, .bool l1, .bool l2, .string (str l3), .bool r1, .bool r2, .string (str r3), .slice oa on oc, .slice ka kn kc])
 have HB6 := LH (HB5.out.alloc (Nat.le_trans HB1.out.size HS5.out) (.cells #[.int .i64 kd, .string (str fl), .string (str tx), .int .i64 xn, .bool l1, .bool l2, .string (str l3), .bool r1, .bool r2, .string (str r3), .slice oa on oc, .slice ka kn kc] 36))
 have HG5 := LH (show w.heap.size < w5.heap.size from Nat.lt_of_lt_of_le HSL.out HS5.out)
 have HG6 := LH (show (w5.alloc (.cells #[.int .i64 kd, .string (str fl), .string (str tx), .int .i64 xn, .bool l1, .bool l2, .string (str l3), .bool r1, .bool r2, .string (str r3), .slice oa on oc, .slice ka kn kc] 36)).heap.size = w5.heap.size + 1 from by rw [World.size_alloc])
 have HN6 := LH (HX5.out.belowW ((Below.refl w5.heap.size w5).alloc (Nat.le_refl _) (.cells #[.int .i64 kd, .string (str fl), .string (str tx), .int .i64 xn, .bool l1, .bool l2, .string (str l3), .bool r1, .bool r2, .string (str r3), .slice oa on oc, .slice ka kn kc] 36)))
 obtain ⟨hbm2, d0, -, d2, -, -⟩ := at_lt2 HR6.out a rfl m b HTB.out
 rw [hb] at d0
 go_wp2_with fail
 generalize w5.alloc (.cells #[.int .i64 kd, .string (str fl), .string (str tx), .int .i64 xn, .bool l1, .bool l2, .string (str l3), .bool r1, .bool r2, .string (str r3), .slice oa on oc, .slice ka kn kc] 36) = w6 at *
 have hbs : (a.add (m * 5)).block < w6.heap.size := by have := HG6.out; have := HW5.out; omega
 have hzz := HX6.out
 obtain ⟨y0, y1, y2, y3, y4, y5, y6, y7, y8, y9, y10, y11, -, -, -, -, -, -, -, -, -, -, -, -, ly⟩ := blk12 hzz
 clear hzz
 have hzz := HZ6.out
 obtain ⟨z0, z1, z2, z3, z4, z5, z6, z7, z8, z9, z10, z11, fz0, fz1, fz2, fz3, fz4, fz5, fz6, fz7, fz8, fz9, fz10, fz11, lz⟩ := blk12 hzz; (try simp only [World.size_alloc] at lz)
 clear hzz
 go_region
 all_goals
  have HB7 := LH (HB6.out.alloc (by rw [HG6.out]; have := HG5.out; omega) (.cells #[.int .i64 kd, .string (str fl), .string (str tx), .int .i64 xn, .bool l1, .bool l2, .string (str l3), .bool r1, .bool r2, .string (str r3), .slice oa on oc, .slice ka kn kc] 36))
  have HG7 := LH (show (w6.alloc (.cells #[.int .i64 kd, .string (str fl), .string (str tx), .int .i64 xn, .bool l1, .bool l2, .string (str l3), .bool r1, .bool r2, .string (str r3), .slice oa on oc, .slice ka kn kc] 36)).heap.size = w6.heap.size + 1 from World.size_alloc _ _)
  have HK7 := LH (show Blk (w6.alloc (.cells #[.int .i64 kd, .string (str fl), .string (str tx), .int .i64 xn, .bool l1, .bool l2, .string (str l3), .bool r1, .bool r2, .string (str r3), .slice oa on oc, .slice ka kn kc] 36)) w6.heap.size 36 (NV.cells ⟨kd, fl, tx, xn, ⟨l1, l2, l3⟩, ⟨r1, r2, r3⟩, ⟨oa, on, oc⟩, ⟨ka, kn, kc⟩⟩).toArray from Blk.new w6 _ _)
  have HN7 := LH ((HN6.out.belowW ((Below.refl w6.heap.size w6).alloc (Nat.le_refl _) (.cells #[.int .i64 kd, .string (str fl), .string (str tx), .int .i64 xn, .bool l1, .bool l2, .string (str l3), .bool r1, .bool r2, .string (str r3), .slice oa on oc, .slice ka kn kc] 36))).mono (G := fun b => w.heap.size < b ∧ b < (w6.alloc (.cells #[.int .i64 kd, .string (str fl), .string (str tx), .int .i64 xn, .bool l1, .bool l2, .string (str l3), .bool r1, .bool r2, .string (str r3), .slice oa on oc, .slice ka kn kc] 36)).heap.size) (fun b h => ⟨h.1, by rw [HG7.out, HG6.out]; have := h.2; omega⟩))
  have hg6 : w.heap.size < w6.heap.size := by rw [HG6.out]; have := HG5.out; omega
  go_wp2
  refine bodyPost_ret (v := NV.val ⟨14, [], [], b.n, bd0, bd0, ⟨none, 0, 0⟩, ⟨some ⟨w6.heap.size, 0, none⟩, 1, 1⟩⟩) ?_ rfl ?_
  ·simp [results, Tryd.results88, go_sem, World.cell?_drew, World.cell?_alloc_lt, NV.val, bd0, str, hg6, lz, fz0, fz1, fz2, fz3, fz4, fz5, fz6, fz7, fz8, fz9, fz10, fz11, z0, z1, z2, z3, z4, z5, z6, z7, z8, z9, z10, z11]
  ·exact RRet.drw (RRet.box1 hg6 HB7.out HV.out (nd_kid HK7.out ⟨hg6, by rw [HG7.out]; omega⟩ HN7.out) (fun b h => h))
theorem rneg_const (t b : Lt) (s0 A0 : List Lt) (n : Nat) (v : Vl) (M : Nat) (w : World) (B : Nat) (A : Option Addr) (k cap : Nat) (f : List UInt8) (h : RdL ltS w B (.slice A k cap) (t :: s0)) (hB : B ≤ w.heap.size) (hA : t :: s0 = A0 ++ [b]) (hD : D .unary A0 n v) (hT : TnOk A0) (hlen : A0.length < M) (hN : NegOk M) (ht : t.kind ≠ 6) (hb : b.kind = 19) (hl8 : A0.length ≤ 100000000) :
  Calls Tryd.prog 88 #[.slice A k cap, .string (str f)] w (RRet [((0 : Int), ndKids 15 b.n ((v f).map (·.2)))] w) := by
 have hlen0 : s0.length = A0.length := by
  have := congrArg List.length hA
  simpa using this
 obtain ⟨m, hm⟩ : ∃ m, m = s0.length := ⟨_, rfl⟩
 have hm2 : A0.length = m := by rw [hm]; exact hlen0.symm
 have hk : k = m + 1 := by
  obtain ⟨A', cap', e, -, -⟩ := h.open_
  injection e with e1 e2 e3
  all_goals rw [e2, List.length_cons, hm]
 subst hk
 have HR1 := LH (h.belowW hB ((Below.refl _ _).alloc (Nat.le_refl _) zO))
 have HZ1 := LH (Blk.new w 36 zA)
 have HB1 := LH (show Below w.heap.size w (w.alloc zO) from (Below.refl _ _).alloc (Nat.le_refl _) zO)
 have HSW := LH (show B ≤ (w.alloc zO).heap.size from Nat.le_trans hB HB1.out.size)
 have HSL := LH (show w.heap.size < (w.alloc zO).heap.size from by rw [World.size_alloc]; omega)
 obtain ⟨pq, hpr, hrun⟩ := lt_upto HR1.out (j := m) (by rw [List.length_cons]; omega)
 have HPR := LH (show RdL ltS (w.alloc zO) B (.slice A m pq) A0 from by
  rw [hA, ← hm2, List.take_left] at hpr
  rw [← hm2]; exact hpr)
 clear hpr
 obtain ⟨a, rfl⟩ := some_of_rd HR1.out
 have HTB := LH (show (t :: s0)[m]? = some b from by rw [hA, ← hm2, List.getElem?_append_right (Nat.le_refl _), Nat.sub_self]; rfl)
 obtain ⟨hb0, c0, -, -, -, -⟩ := at_lt2 HR1.out a rfl 0 t rfl
 obtain ⟨hbm, d0, -, d2, -, -⟩ := at_lt2 HR1.out a rfl m b HTB.out
 have ea : a.add (0 * 5) = a := by simp [Addr.add]
 rw [ea] at c0
 rw [hb] at d0
 have hx6 : (t.kind == 6) = false := by simpa using ht
 have HNN := LH (fun (W : World) (hW : RdL ltS W B (.slice (some a) m pq) A0) (hS : B ≤ W.heap.size) => hN A0 n v hD hT hlen W B (some a) m pq f hW hS)
 have HM8 := LH (show m ≤ 100000000 from by omega)
 have hm8 : m ≤ 100000000 := HM8.out
 clear ea h hB hD hT hlen hN ht hm hm2 hlen0 hl8
 go_enter Tryd.func88, Tryd.ntmps88
 go_wp2_with fail
 clear c0 d0 d2 hx6
 generalize w.alloc zO = w1 at *
 refine (HNN.out w1 HPR.out HSW.out).mono ?_
 rintro e w5 ⟨hb5, x, t5, rfl, hv, hx⟩
 obtain ⟨kd, fl, tx, xn, ⟨l1, l2, l3⟩, ⟨r1, r2, r3⟩, ⟨oa, on, oc⟩, ⟨ka, kn, kc⟩⟩ := x
 unfold NV.val
 simp only []
 have HV := LH (show [((0 : Int), ndKids 15 b.n ((v f).map (·.2)))] = [(0, ndKids 15 b.n [t5])] from by rw [show v f = [(0, t5)] from hv]; rfl)
 have HS5 := LH hb5.size
 have HB5 := LH (HB1.out.trans (hb5.mono HB1.out.size))
 have HZ5 := LH (HZ1.out.below hb5 HSL.out)
 have HX5 := LH (hx.mono (G := fun b => w.heap.size < b ∧ b < w5.heap.size) (fun b h => ⟨Nat.lt_of_lt_of_le HSL.out h.1, h.2⟩))
 have HR5 := LH ((HR1.out.belowW HSW.out hb5))
 have HW5 := LH (show B ≤ w5.heap.size from Nat.le_trans HSW.out hb5.size)
 clear hb5 hx hv
 have HR6 := LH (HR5.out.belowW HW5.out ((Below.refl _ _).alloc (Nat.le_refl _) (.cells #[.int .i64 kd, .string (str fl), .string (str tx), .int .i64 xn, .bool l1, .bool l2, .string (str l3), .bool r1, .bool r2, .string (str r3), .slice oa on oc, .slice ka kn kc] 36)))
 have HZ6 := LH (HZ5.out.alloc (.cells #[.int .i64 kd, .string (str fl), .string (str tx), .int .i64 xn, .bool l1, .bool l2, .string (str l3), .bool r1, .bool r2, .string (str r3), .slice oa on oc, .slice ka kn kc] 36))
 have HX6 := LH (Blk.new w5 36 #[.int .i64 kd, .string (str fl), .string (str tx), .int .i64 xn, .bool l1, .bool l2, .string (str l3), .bool r1, .bool r2, .string (str r3), .slice oa on oc, .slice ka kn kc])
 have HB6 := LH (HB5.out.alloc (Nat.le_trans HB1.out.size HS5.out) (.cells #[.int .i64 kd, .string (str fl), .string (str tx), .int .i64 xn, .bool l1, .bool l2, .string (str l3), .bool r1, .bool r2, .string (str r3), .slice oa on oc, .slice ka kn kc] 36))
 have HG5 := LH (show w.heap.size < w5.heap.size from Nat.lt_of_lt_of_le HSL.out HS5.out)
 have HG6 := LH (show (w5.alloc (.cells #[.int .i64 kd, .string (str fl), .string (str tx), .int .i64 xn, .bool l1, .bool l2, .string (str l3), .bool r1, .bool r2, .string (str r3), .slice oa on oc, .slice ka kn kc] 36)).heap.size = w5.heap.size + 1 from by rw [World.size_alloc])
 have HN6 := LH (HX5.out.belowW ((Below.refl w5.heap.size w5).alloc (Nat.le_refl _) (.cells #[.int .i64 kd, .string (str fl), .string (str tx), .int .i64 xn, .bool l1, .bool l2, .string (str l3), .bool r1, .bool r2, .string (str r3), .slice oa on oc, .slice ka kn kc] 36)))
 obtain ⟨hbm2, d0, -, d2, -, -⟩ := at_lt2 HR6.out a rfl m b HTB.out
 rw [hb] at d0
 go_wp2_with fail
 generalize w5.alloc (.cells #[.int .i64 kd, .string (str fl), .string (str tx), .int .i64 xn, .bool l1, .bool l2, .string (str l3), .bool r1, .bool r2, .string (str r3), .slice oa on oc, .slice ka kn kc] 36) = w6 at *
 have hbs : (a.add (m * 5)).block < w6.heap.size := by have := HG6.out; have := HW5.out; omega
 have hzz := HX6.out
 obtain ⟨y0, y1, y2, y3, y4, y5, y6, y7, y8, y9, y10, y11, -, -, -, -, -, -, -, -, -, -, -, -, ly⟩ := blk12 hzz
 clear hzz
 have hzz := HZ6.out
 obtain ⟨z0, z1, z2, z3, z4, z5, z6, z7, z8, z9, z10, z11, fz0, fz1, fz2, fz3, fz4, fz5, fz6, fz7, fz8, fz9, fz10, fz11, lz⟩ := blk12 hzz; (try simp only [World.size_alloc] at lz)
 clear hzz
 go_region
 all_goals
  have HB7 := LH (HB6.out.alloc (by rw [HG6.out]; have := HG5.out; omega) (.cells #[.int .i64 kd, .string (str fl), .string (str tx), .int .i64 xn, .bool l1, .bool l2, .string (str l3), .bool r1, .bool r2, .string (str r3), .slice oa on oc, .slice ka kn kc] 36))
  have HG7 := LH (show (w6.alloc (.cells #[.int .i64 kd, .string (str fl), .string (str tx), .int .i64 xn, .bool l1, .bool l2, .string (str l3), .bool r1, .bool r2, .string (str r3), .slice oa on oc, .slice ka kn kc] 36)).heap.size = w6.heap.size + 1 from World.size_alloc _ _)
  have HK7 := LH (show Blk (w6.alloc (.cells #[.int .i64 kd, .string (str fl), .string (str tx), .int .i64 xn, .bool l1, .bool l2, .string (str l3), .bool r1, .bool r2, .string (str r3), .slice oa on oc, .slice ka kn kc] 36)) w6.heap.size 36 (NV.cells ⟨kd, fl, tx, xn, ⟨l1, l2, l3⟩, ⟨r1, r2, r3⟩, ⟨oa, on, oc⟩, ⟨ka, kn, kc⟩⟩).toArray from Blk.new w6 _ _)
  have HN7 := LH ((HN6.out.belowW ((Below.refl w6.heap.size w6).alloc (Nat.le_refl _) (.cells #[.int .i64 kd, .string (str fl), .string (str tx), .int .i64 xn, .bool l1, .bool l2, .string (str l3), .bool r1, .bool r2, .string (str r3), .slice oa on oc, .slice ka kn kc] 36))).mono (G := fun b => w.heap.size < b ∧ b < (w6.alloc (.cells #[.int .i64 kd, .string (str fl), .string (str tx), .int .i64 xn, .bool l1, .bool l2, .string (str l3), .bool r1, .bool r2, .string (str r3), .slice oa on oc, .slice ka kn kc] 36)).heap.size) (fun b h => ⟨h.1, by rw [HG7.out, HG6.out]; have := h.2; omega⟩))
  have hg6 : w.heap.size < w6.heap.size := by rw [HG6.out]; have := HG5.out; omega
  go_wp2
  refine bodyPost_ret (v := NV.val ⟨15, [], [], b.n, bd0, bd0, ⟨none, 0, 0⟩, ⟨some ⟨w6.heap.size, 0, none⟩, 1, 1⟩⟩) ?_ rfl ?_
  ·simp [results, Tryd.results88, go_sem, World.cell?_drew, World.cell?_alloc_lt, NV.val, bd0, str, hg6, lz, fz0, fz1, fz2, fz3, fz4, fz5, fz6, fz7, fz8, fz9, fz10, fz11, z0, z1, z2, z3, z4, z5, z6, z7, z8, z9, z10, z11]
  ·exact RRet.drw (RRet.box1 hg6 HB7.out HV.out (nd_kid HK7.out ⟨hg6, by rw [HG7.out]; omega⟩ HN7.out) (fun b h => h))
theorem rneg_atom (t b : Lt) (s0 A0 : List Lt) (n : Nat) (v : Vl) (M : Nat) (w : World) (B : Nat) (A : Option Addr) (k cap : Nat) (f : List UInt8) (h : RdL ltS w B (.slice A k cap) (t :: s0)) (hB : B ≤ w.heap.size) (hA : t :: s0 = A0 ++ [b]) (hD : D .atom (t :: s0) n v) (hT : TnOk (t :: s0)) (hlen : (t :: s0).length < M) (hN : AtmOk M) (ht : t.kind ≠ 6) (hb : b.kind ≠ 18) (hb2 : b.kind ≠ 19) (hl8 : A0.length ≤ 100000000) :
  Calls Tryd.prog 88 #[.slice A k cap, .string (str f)] w (RRet (v f) w) := by
 have hlen0 : s0.length = A0.length := by
  have := congrArg List.length hA
  simpa using this
 obtain ⟨m, hm⟩ : ∃ m, m = s0.length := ⟨_, rfl⟩
 have hm2 : A0.length = m := by rw [hm]; exact hlen0.symm
 have hk : k = m + 1 := by
  obtain ⟨A', cap', e, -, -⟩ := h.open_
  injection e with e1 e2 e3
  all_goals rw [e2, List.length_cons, hm]
 subst hk
 have HR1 := LH (h.belowW hB ((Below.refl _ _).alloc (Nat.le_refl _) zO))
 have HZ1 := LH (Blk.new w 36 zA)
 have HB1 := LH (show Below w.heap.size w (w.alloc zO) from (Below.refl _ _).alloc (Nat.le_refl _) zO)
 have HSW := LH (show B ≤ (w.alloc zO).heap.size from Nat.le_trans hB HB1.out.size)
 have HSL := LH (show w.heap.size < (w.alloc zO).heap.size from by rw [World.size_alloc]; omega)
 obtain ⟨a, rfl⟩ := some_of_rd HR1.out
 have HTB := LH (show (t :: s0)[m]? = some b from by rw [hA, ← hm2, List.getElem?_append_right (Nat.le_refl _), Nat.sub_self]; rfl)
 obtain ⟨hb0, c0, -, -, -, -⟩ := at_lt2 HR1.out a rfl 0 t rfl
 obtain ⟨hbm, d0, -, d2, -, -⟩ := at_lt2 HR1.out a rfl m b HTB.out
 have ea : a.add (0 * 5) = a := by simp [Addr.add]
 rw [ea] at c0
 have hx6 : (t.kind == 6) = false := by simpa using ht
 have hx18 : (b.kind == 18) = false := by simpa using hb
 have hx19 : (b.kind == 19) = false := by simpa using hb2
 have HNN := LH (fun (W : World) (hW : RdL ltS W B (.slice (some a) (m + 1) cap) (t :: s0)) (hS : B ≤ W.heap.size) => hN (t :: s0) n v hD hT hlen W B (some a) (m + 1) cap f hW hS)
 have HM8 := LH (show m ≤ 100000000 from by omega)
 have hm8 : m ≤ 100000000 := HM8.out
 clear ea h hB hD hT hlen hN ht hm hm2 hlen0 hl8 hb hb2
 go_enter Tryd.func88, Tryd.ntmps88
 go_wp2_with fail
 clear c0 d0 d2 hx6 hx18 hx19
 generalize w.alloc zO = w1 at *
 refine (HNN.out w1 HR1.out HSW.out).mono ?_
 rintro e w5 ⟨hb5, x, t5, rfl, hv, hx⟩
 obtain ⟨kd, fl, tx, xn, ⟨l1, l2, l3⟩, ⟨r1, r2, r3⟩, ⟨oa, on, oc⟩, ⟨ka, kn, kc⟩⟩ := x
 unfold NV.val
 simp only []
 have HV := LH (show v f = [(0, t5)] from hv)
 have HB5 := LH (HB1.out.trans (hb5.mono HB1.out.size))
 have HZ5 := LH (HZ1.out.below hb5 HSL.out)
 have HX5 := LH (hx.mono (G := fun b => w.heap.size < b ∧ b < w5.heap.size) (fun b h => ⟨Nat.lt_of_lt_of_le HSL.out h.1, h.2⟩))
 clear hb5 hx hv
 have hzz := HZ5.out
 obtain ⟨z0, z1, z2, z3, z4, z5, z6, z7, z8, z9, z10, z11, fz0, fz1, fz2, fz3, fz4, fz5, fz6, fz7, fz8, fz9, fz10, fz11, lz⟩ := blk12 hzz; (try simp only [World.size_alloc] at lz)
 clear hzz
 go_wp2
 refine bodyPost_ret (v := NV.val ⟨kd, fl, tx, xn, ⟨l1, l2, l3⟩, ⟨r1, r2, r3⟩, ⟨oa, on, oc⟩, ⟨ka, kn, kc⟩⟩) ?_ rfl ?_
 ·simp [results, Tryd.results88, go_sem, NV.val, bd0, str, lz, fz0, fz1, fz2, fz3, fz4, fz5, fz6, fz7, fz8, fz9, fz10, fz11, z0, z1, z2, z3, z4, z5, z6, z7, z8, z9, z10, z11]
 ·exact RRet.box HB5.out HV.out HX5.out (fun b h => h)
theorem neg_step {M : Nat} (hM : M ≤ 100000000) (hA : AtmOk (M + 1)) (hN : NegOk M) : NegOk (M + 1) := by
 intro A n v hD hT hlen w B a k cap f h hB
 cases hD with
 | @not t A n v ht hu =>
  exact rneg_not t A n v M w B a k cap f h hB hu hT (by simpa using hlen) hN ht
 | pieceU hp =>
  obtain ⟨t, r, hAe, ht⟩ := piece_hd hp
  cases hp with
  | atomP ha =>
   obtain ⟨A1, b, hAb, h18, h19⟩ := atom_last ha
   subst hAe
   exact rneg_atom t b r A1 n v (M + 1) w B a k cap f h hB hAb ha hT hlen hA ht h18 h19 (by have := congrArg List.length hAb; simp at this hlen; omega)
  | @sfx b A1 n1 v1 hp1 hb =>
   have hlA : A1.length < M := by rw [List.length_append, List.length_singleton] at hlen; omega
   have hTA : TnOk A1 := hT.sub fun x hx => List.mem_append_left _ hx
   rw [hAe] at h
   rcases hb with hb | hb
   ·have hk : (if b.kind = 19 then (15 : Int) else 14) = 14 := by rw [hb]; decide
    rw [hk]
    exact rneg_boost t b r A1 n1 v1 M w B a k cap f h hB hAe.symm (.pieceU hp1) hTA hlA hN ht hb (by omega)
   ·have hk : (if b.kind = 19 then (15 : Int) else 14) = 15 := by rw [hb]; decide
    rw [hk]
    exact rneg_const t b r A1 n1 v1 M w B a k cap f h hB hAe.symm (.pieceU hp1) hTA hlA hN ht hb (by omega)
end Go.Proofs.YtcomdkejpaoneaaDoor
end
