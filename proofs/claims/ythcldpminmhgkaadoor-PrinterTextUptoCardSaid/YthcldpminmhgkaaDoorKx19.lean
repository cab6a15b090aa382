/- Merged for a claim by shake.py: Uk -/
import Derived.Test.YthcldpminmhgkaaDoorKxA
import Derived.Test.YthcldpminmhgkaaDoorKx18
set_option maxRecDepth 100000
set_option maxHeartbeats 8000000
set_option linter.unusedSimpArgs false
set_option linter.unusedVariables false
section
namespace Go.Proofs.YthcldpminmhgkaaDoor
open Go.RowKit
theorem prow_3 (w : World) (pb : Nat) (PA : Option Addr) (cap : Nat) (ts : List Lt) (k : Nat) (f : List UInt8) (h : PsAt w pb PA cap ts k) (hok : TkOk ts) (M : Nat) (hU : UnOk pb PA cap ts M) (A : List Lt) (n : Nat) (v : Vl) (post : List Lt) (hD : D .unary A n v) (hlen : A.length < M) (hd : ts.drop k = A ++ post) (hp : Hd post [14, 20, 21, 18, 19]) :
  Calls Tryd.prog 67 #[.pointer (some ⟨pb, 0, none⟩), .string (str f), .int .i64 3] w (PtRet pb PA cap ts (k + A.length) (v f) w) := by
 have HD0 := LH hD; have HDD := LH hd; have HPP := LH hp
 clear hD hd hp
 have HLT := LH h.lt
 have hl : ts.length ≤ 920000000000 := by have := hok.1; omega
 have hBz : Below w.heap.size w ((w.alloc zO).alloc (.cells #[.int .i64 5, .int .i64 11, .int .i64 4, .int .i64 10, .int .i64 17, .int .i64 12] 117)) := ((Below.refl _ _).alloc (Nat.le_refl _) _).alloc (by rw [World.size_alloc]; omega) _
 have HA2 := LH ((h.alloc zO).alloc (.cells #[.int .i64 5, .int .i64 11, .int .i64 4, .int .i64 10, .int .i64 17, .int .i64 12] 117))
 have HZ2 := LH ((Blk.new w 27 zA).alloc (.cells #[.int .i64 5, .int .i64 11, .int .i64 4, .int .i64 10, .int .i64 17, .int .i64 12] 117))
 have HO2 := LH (show Blk ((w.alloc zO).alloc (.cells #[.int .i64 5, .int .i64 11, .int .i64 4, .int .i64 10, .int .i64 17, .int .i64 12] 117)) (w.heap.size + 1) 117 #[.int .i64 5, .int .i64 11, .int .i64 4, .int .i64 10, .int .i64 17, .int .i64 12] from by have h := Blk.new (w.alloc zO) 117 #[.int .i64 5, .int .i64 11, .int .i64 4, .int .i64 10, .int .i64 17, .int .i64 12]; rw [World.size_alloc] at h; exact h)
 have HB2 := LH (PB.of (pb := pb) hBz (Nat.le_of_lt h.lt))
 have HW2 := LH (show ((w.alloc zO).alloc (.cells #[.int .i64 5, .int .i64 11, .int .i64 4, .int .i64 10, .int .i64 17, .int .i64 12] 117)).heap.size = w.heap.size + 2 from by rw [World.size_alloc, World.size_alloc])
 clear h hBz
 go_enter Tryd.func67, Tryd.ntmps67
 go_upto_region 2 with (fail)
 generalize (w.alloc zO).alloc (.cells #[.int .i64 5, .int .i64 11, .int .i64 4, .int .i64 10, .int .i64 17, .int .i64 12] 117) = w2 at *
 go_wp2_with fail
 refine (hU A n v HD0.out hlen w2 k f post HDD.out HPP.out HA2.out).mono ?_
 rintro e w5 ⟨hb5, hp5, x, t5, rfl, hv, hx⟩
 obtain ⟨kd, fl, tx, xn, ⟨l1, l2, l3⟩, ⟨r1, r2, r3⟩, ⟨oa, on, oc⟩, ⟨ka, kn, kc⟩⟩ := x
 unfold NV.val
 simp only []
 have HB5 := LH (HB2.out.trans hb5); have HP5 := LH hp5; have HZ5 := LH (HZ2.out.zpb hb5 HLT.out); have HX5 := LH hx; have HV5 := LH hv
 have HFB := LH (fun (b : Nat) (h : rng w2.heap.size w5.heap.size b) => (show w.heap.size < b ∧ b < w5.heap.size from ⟨Nat.lt_of_lt_of_le HZ2.out.lt h.1, h.2⟩))
 clear hb5 hp5 hx hv
 have hzz := HZ5.out
 obtain ⟨z0, z1, z2, z3, z4, z5, z6, z7, z8, z9, z10, z11, fz0, fz1, fz2, fz3, fz4, fz5, fz6, fz7, fz8, fz9, fz10, fz11, lz⟩ := blk12 hzz
 clear hzz
 go_wp2
 refine bodyPost_ret (v := NV.val ⟨kd, fl, tx, xn, ⟨l1, l2, l3⟩, ⟨r1, r2, r3⟩, ⟨oa, on, oc⟩, ⟨ka, kn, kc⟩⟩) ?_ rfl ?_
 ·simp [results, Tryd.results67, go_sem, NV.val, bd0, str, lz, fz0, fz1, fz2, fz3, fz4, fz5, fz6, fz7, fz8, fz9, fz10, fz11, z0, z1, z2, z3, z4, z5, z6, z7, z8, z9, z10, z11]
 ·exact PtRet.tree HLT.out HB5.out HP5.out (rfl) HV5.out HX5.out HFB.out
theorem prow_0 (w : World) (pb : Nat) (PA : Option Addr) (cap : Nat) (ts : List Lt) (k : Nat) (f : List UInt8) (h : PsAt w pb PA cap ts k) (hok : TkOk ts) (M : Nat) (hR : ∀ (A : List Lt) (n : Nat) (v : Vl), D .ands A n v → A.length < M → ∀ (w : World) (k : Nat) (f : List UInt8) (post : List Lt), ts.drop k = A ++ post → Hd post (rwK 1) → PsAt w pb PA cap ts k → Calls Tryd.prog 67 #[.pointer (some ⟨pb, 0, none⟩), .string (str f), .int .i64 1] w (PtRet pb PA cap ts (k + A.length) ((wrapN 10) (v f)) w))
  (A : List Lt) (n : Nat) (v : Vl) (post : List Lt) (hD : D .ors A n v) (hlen : A.length < M) (hd : ts.drop k = A ++ post) (hp : Hd post (rwK 0)) :
  Calls Tryd.prog 67 #[.pointer (some ⟨pb, 0, none⟩), .string (str f), .int .i64 0] w (PtRet pb PA cap ts (k + A.length) (wrapN 11 (v f)) w) := by
 obtain ⟨B0, v0, r, hch⟩ := hD.orC
 obtain ⟨rfl, rfl, ⟨nh, hh⟩, hrest⟩ := hch
 have HH := LH hh; have HRS := LH hrest; have HDD := LH hd; have HPP := LH hp
 have HLE := LH hlen
 have hlc : (chToks B0 r).length ≤ 920000000000 := by
  have h1 := congrArg List.length hd
  rw [List.length_drop, List.length_append] at h1
  have := hok.1; omega
 have HLC := LH hlc
 have HRL := LH (show r.length ≤ 920000000000 from Nat.le_trans chToks_r_le hlc)
 have HD1 := LH (show ts.drop k = B0 ++ (r.flatMap (fun y => y.b :: y.A) ++ post) from by rw [hd]; unfold chToks; rw [List.append_assoc])
 have HNX := LH (show ∀ i, Hd ((r.drop i).flatMap (fun y => y.b :: y.A) ++ post) (rwK 1) from by
  intro i
  cases hri : r.drop i with
  | nil => exact hp.less (by decide)
  | cons y s =>
   refine ⟨y.b, y.A ++ (s.flatMap (fun y => y.b :: y.A) ++ post), by rw [List.flatMap_cons]; simp [List.append_assoc], ?_⟩
   rw [(hrest y (List.mem_of_mem_drop (by rw [hri]; exact List.mem_cons_self))).1]
   decide)
 have HB0L := LH (show B0.length < M from by
  have : B0.length ≤ (chToks B0 r).length := by unfold chToks; rw [List.length_append]; omega
  omega)
 clear hD hh hrest hd hp hlen hlc
 have HLT := LH h.lt
 have hl : ts.length ≤ 920000000000 := by have := hok.1; omega
 have hBz : Below w.heap.size w ((w.alloc zO).alloc (.cells #[.int .i64 5, .int .i64 11, .int .i64 4, .int .i64 10, .int .i64 17, .int .i64 12] 117)) := ((Below.refl _ _).alloc (Nat.le_refl _) _).alloc (by rw [World.size_alloc]; omega) _
 have HA2 := LH ((h.alloc zO).alloc (.cells #[.int .i64 5, .int .i64 11, .int .i64 4, .int .i64 10, .int .i64 17, .int .i64 12] 117))
 have HZ2 := LH ((Blk.new w 27 zA).alloc (.cells #[.int .i64 5, .int .i64 11, .int .i64 4, .int .i64 10, .int .i64 17, .int .i64 12] 117))
 have HO2 := LH (show Blk ((w.alloc zO).alloc (.cells #[.int .i64 5, .int .i64 11, .int .i64 4, .int .i64 10, .int .i64 17, .int .i64 12] 117)) (w.heap.size + 1) 117 #[.int .i64 5, .int .i64 11, .int .i64 4, .int .i64 10, .int .i64 17, .int .i64 12] from by have h := Blk.new (w.alloc zO) 117 #[.int .i64 5, .int .i64 11, .int .i64 4, .int .i64 10, .int .i64 17, .int .i64 12]; rw [World.size_alloc] at h; exact h)
 have HB2 := LH (PB.of (pb := pb) hBz (Nat.le_of_lt h.lt))
 have HW2 := LH (show ((w.alloc zO).alloc (.cells #[.int .i64 5, .int .i64 11, .int .i64 4, .int .i64 10, .int .i64 17, .int .i64 12] 117)).heap.size = w.heap.size + 2 from by rw [World.size_alloc, World.size_alloc])
 clear h hBz
 go_enter Tryd.func67, Tryd.ntmps67
 go_upto_region 2 with (fail)
 generalize (w.alloc zO).alloc (.cells #[.int .i64 5, .int .i64 11, .int .i64 4, .int .i64 10, .int .i64 17, .int .i64 12] 117) = w2 at *
 go_wp2_with fail
 refine (hR B0 nh v0 HH.out HB0L.out w2 k f _ HD1.out (HNX.out 0) HA2.out).mono ?_
 rintro e w5 ⟨hb5, hp5, x, t5, rfl, hv, hx⟩
 obtain ⟨kd, fl, tx, xn, ⟨l1, l2, l3⟩, ⟨r1, r2, r3⟩, ⟨oa, on, oc⟩, ⟨ka, kn, kc⟩⟩ := x
 unfold NV.val
 simp only []
 have HR0 := LH (show RwRel w pb PA cap ts k B0 v0 r f (wrapN 10) zA #[.int .i64 5, .int .i64 11, .int .i64 4, .int .i64 10, .int .i64 17, .int .i64 12] r.length (.slice (some ⟨w5.heap.size, 0, none⟩) 1 1) (w5.alloc (.cells #[.int .i64 kd, .string (str fl), .string (str tx), .int .i64 xn, .bool l1, .bool l2, .string (str l3), .bool r1, .bool r2, .string (str r3), .slice oa on oc, .slice ka kn kc] 27)) from by
  have hn1 : w.heap.size + 2 ≤ w2.heap.size := Nat.le_of_eq HW2.out.symm
  refine ⟨0, [⟨kd, fl, tx, xn, ⟨l1, l2, l3⟩, ⟨r1, r2, r3⟩, ⟨oa, on, oc⟩, ⟨ka, kn, kc⟩⟩], [t5], rfl, Nat.zero_le _, Nat.le_refl _, ?_, KA.first hx hn1 (Nat.le_trans hn1 hb5.size), ?_, (HB2.out.trans hb5).alloc (Nat.le_of_lt HLT.out) _, (HZ2.out.zpb hb5 HLT.out).alloc _, (HO2.out.zpb hb5 (by have := HLT.out; omega)).alloc _⟩
  ·have e : (chToks B0 (r.take 0)).length = B0.length := by unfold chToks; simp
   rw [e]; exact hp5.alloc _
  ·unfold chVal
   rw [List.take_zero, List.flatMap_nil, List.append_nil, hv]; rfl)
 clear hb5 hp5 hx hv
 go_wp2
 go_loopg [8] (r.length) (fun gh kv wr => RwRel w pb PA cap ts k B0 v0 r f (wrapN 10) zA #[.int .i64 5, .int .i64 11, .int .i64 4, .int .i64 10, .int .i64 17, .int .i64 12] gh kv wr)
 case atStart => exact HR0.out
 case round =>
  clear HR0
  obtain ⟨wo, rfl⟩ : ∃ wo : World, wo = wr := ⟨_, rfl⟩
  obtain ⟨i, nl, tl, hgh, hi, hnl, hps, hka, hval, hpb, hz, hoo⟩ := hrel
  have HGH := LH hgh; have HPS := LH hps; have HKA := LH hka; have HVL := LH hval; have HPB := LH hpb; have HZ := LH hz; have HOO := LH hoo
  have HIR := LH hi; have HNL := LH hnl
  obtain ⟨KA_, KC_, rfl⟩ := hka.form
  have o0 := hoo.cell 0; have o1 := hoo.cell 1; have lo := hoo.lt
  simp only [List.getElem?_toArray, List.getElem?_cons_zero, List.getElem?_cons_succ] at o0 o1
  clear hgh hps hka hval hpb hz hoo hi hnl
  by_cases hlt : i < r.length
  ·obtain ⟨y, hy⟩ : ∃ y, r[i]? = some y := ⟨_, List.getElem?_eq_getElem hlt⟩
   have HY := LH hy
   have hyr := HRS.out y (List.mem_of_getElem? hy)
   have HDK := LH (chToks_drop HDD.out hy)
   have HT0 := LH (show ts[k + (chToks B0 (r.take i)).length]? = some y.b from by have := tk_at HDK.out 0 (t := y.b) rfl; simpa using this)
   have HTK := LH (show decide (y.b.kind = 5) = true from decide_eq_true hyr.1)
   obtain ⟨ny, hny⟩ := hyr.2
   have HNY := LH hny
   have HDN := LH (show ts.drop (k + (chToks B0 (r.take i)).length + 1) = y.A ++ ((r.drop (i + 1)).flatMap (fun y => y.b :: y.A) ++ post) from dropk (X := [y.b]) HDK.out)
   have HYL := LH (show y.A.length < M from Nat.lt_trans (chToks_len_le hy) HLE.out)
   have HPOS := LH (chToks_succ (B0 := B0) hy)
   have HVS := LH (chVal_succ (wr := wrapN 10) (v0 := v0) hy f)
   have HNEW := LH (show r.length - (i + 1) < r.length - i from by omega)
   clear hy hyr hny
   go_wp2_with fail
   refine (ptakes_at 5 HPS.out HT0.out hl).mono ?_
   rintro e w6 ⟨rfl, hb6, hp6⟩
   rw [HTK.out] at hp6 ⊢
   simp only [if_true] at hp6
   have HP6 := LH hp6; have HB6 := LH (HPB.out.trans hb6); have HZ6 := LH (HZ.out.zpb hb6 HLT.out); have HO6 := LH (HOO.out.zpb hb6 (by have := HLT.out; omega)); have HK6 := LH (HKA.out.pb hb6 (by have := HLT.out; omega))
   have HG6 := LH (fun (g : Nat) (hg : (Value.slice KA_ nl.length KC_).ownBlock = some g) => Nat.lt_of_lt_of_le (World.ownsRow.lt HKA.out.own g hg).2 hb6.size)
   clear hb6 hp6 o0 o1 lo
   go_wp2_with fail
   refine (hR y.A ny y.v HNY.out HYL.out w6 _ f _ HDN.out (HNX.out (i + 1)) HP6.out).mono ?_
   rintro e w7 ⟨hb7, hp7, x, t7, rfl, hv, hx⟩
   obtain ⟨kd, fl, tx, xn, ⟨l1, l2, l3⟩, ⟨r1, r2, r3⟩, ⟨oa, on, oc⟩, ⟨ka, kn, kc⟩⟩ := x
   unfold NV.val
   simp only []
   have HP7 := LH hp7; have HB7 := LH (HB6.out.trans hb7); have HZ7 := LH (HZ6.out.zpb hb7 HLT.out); have HO7 := LH (HO6.out.zpb hb7 (by have := HLT.out; omega)); have HK7 := LH (HK6.out.pb hb7 (by have := HLT.out; omega))
   have HX7 := LH hx; have HV7 := LH hv
   have HE7 := LH (show w.heap.size + 2 ≤ w6.heap.size from HK6.out.hB)
   clear hb7 hp7 hx hv
   go_wp2_with (at_builtin; refine OwnL.appendL ndOk HK7.out.own ⟨kd, fl, tx, xn, ⟨l1, l2, l3⟩, ⟨r1, r2, r3⟩, ⟨oa, on, oc⟩, ⟨ka, kn, kc⟩⟩ w7.heap.size rfl _ _ rfl rfl rfl #[.int .i64 kd, .string (str fl), .string (str tx), .int .i64 xn, .bool l1, .bool l2, .string (str l3), .bool r1, .bool r2, .string (str r3), .slice oa on oc, .slice ka kn kc] rfl rfl HK7.out.hB (by have := HNL.out; have := HRL.out; have := HIR.out; omega) ?_)
   intro v8 w8 ho8 hb8 hk8 hg8
   have HKA8 := LH (HK7.out.app HX7.out HE7.out HG6.out ho8 hb8 hk8 hg8)
   have hgp := fun (g : Nat) (hlt : g < w.heap.size + 2) => (show (Value.slice KA_ nl.length KC_).ownBlock ≠ some g from fun e => by have := (World.ownsRow.lt HK7.out.own g e).1; omega)
   have HP8 := LH (HP7.out.keptN (hb8.mono (by have := HLT.out; omega)) hk8 (hgp pb (by have := HLT.out; omega)))
   have HB8 := LH (HB7.out.low hb8 (show w.heap.size ≤ w.heap.size + 2 by omega) (Nat.le_of_lt HLT.out))
   have HZ8 := LH (HZ7.out.below hb8 (show w.heap.size < w.heap.size + 2 by omega))
   have HO8 := LH (HO7.out.below hb8 (show w.heap.size + 1 < w.heap.size + 2 by omega))
   clear ho8 hb8 hk8 hg8 hgp
   go_wp2
   go_roundg (r.length - (i + 1))
   case measure => rw [HGH.out]; exact HNEW.out
   case rel =>
    refine ⟨i + 1, _, tl ++ [t7], rfl, hlt, ?_, ?_, HKA8.out, ?_, HB8.out, HZ8.out, HO8.out⟩
    ·rw [List.length_append, List.length_singleton]; have := HNL.out; omega
    ·rw [HPOS.out, ← Nat.add_assoc, ← Nat.add_assoc]; exact HP8.out
    ·rw [HVS.out, HVL.out, HV7.out, zr_snoc]
  ·have hie : i = r.length := by have := HIR.out; omega
   obtain ⟨p, pr, hpp, hpk⟩ := HPP.out
   have HT0 := LH (show ts[k + (chToks B0 (r.take i)).length]? = some p from by
    have h1 : ts.drop (k + (chToks B0 r).length) = post := dropk HDD.out
    rw [hie, List.take_length]
    have := tk_at (A := []) (j := 0) (h1.trans (List.nil_append post).symm) (t := p) (by rw [hpp]; rfl)
    simpa using this)
   have HTK := LH (show decide (p.kind = 5) = false from decide_eq_false (fun h => hpk (by rw [h]; decide)))
   have HPE := LH (show (chToks B0 (r.take i)).length = (chToks B0 r).length from by rw [hie, List.take_length])
   have HVE := LH (show chVal (wrapN 10) v0 r f = zr tl from by rw [← HVL.out, hie, List.take_length])
   clear hpp hpk hie
   go_wp2_with fail
   refine (ptakes_at 5 HPS.out HT0.out hl).mono ?_
   rintro e w6 ⟨rfl, hb6, hp6⟩
   rw [HTK.out] at hp6 ⊢
   simp only [Bool.false_eq_true, if_false] at hp6
   have HP6 := LH hp6; have HB6 := LH (HPB.out.trans hb6); have HZ6 := LH (HZ.out.zpb hb6 HLT.out); have HO6 := LH (HOO.out.zpb hb6 (by have := HLT.out; omega)); have HK6 := LH (HKA.out.pb hb6 (by have := HLT.out; omega))
   clear hb6 hp6 o0 o1 lo
   have o1 := HO6.out.cell 1; have lo := HO6.out.lt
   simp only [List.getElem?_toArray, List.getElem?_cons_zero, List.getElem?_cons_succ] at o1
   have HFB := LH (fun (b : Nat) (h : rng (w.heap.size + 2) w6.heap.size b) => (show w.heap.size < b ∧ b < w6.heap.size from ⟨by have := h.1; omega, h.2⟩))
   have HTN := LH HK6.out.trees.1
   by_cases h1 : tl.length = 1
   ·obtain ⟨t0, rfl⟩ := List.length_eq_one_iff.1 h1
    have hn1 : nl.length = 1 := by rw [HTN.out]; exact h1
    obtain ⟨x0, rfl⟩ := List.length_eq_one_iff.1 hn1
    obtain ⟨b0, hb0, hbF, hbl, hc0, hc⟩ := HK6.out.rd.1.nd0
    subst hb0
    obtain ⟨kd, fl, tx, xn, ⟨l1, l2, l3⟩, ⟨r1, r2, r3⟩, ⟨oa, on, oc⟩, ⟨ka, kn, kc⟩⟩ := x0
    have d1 := hc 0 _ rfl; have d2 := hc 1 _ rfl; have d3 := hc 2 _ rfl; have d4 := hc 3 _ rfl; have d5 := hc 4 _ rfl; have d6 := hc 5 _ rfl
    have d7 := hc 6 _ rfl; have d8 := hc 7 _ rfl; have d9 := hc 8 _ rfl; have d10 := hc 9 _ rfl; have d11 := hc 10 _ rfl
    simp only [Nat.zero_add, Nat.reduceAdd] at d1 d2 d3 d4 d5 d6 d7 d8 d9 d10 d11 hc0
    have HXF := LH (HK6.out.rd.2.2 0 _ _ rfl rfl)
    have HVF := LH (show wrapN 11 (chVal (wrapN 10) v0 r f) = [(0, t0)] from by rw [HVE.out, wrap_one])
    clear hc h1 hn1 hbF
    have hzz := HZ6.out
    obtain ⟨z0, z1, z2, z3, z4, z5, z6, z7, z8, z9, z10, z11, fz0, fz1, fz2, fz3, fz4, fz5, fz6, fz7, fz8, fz9, fz10, fz11, lz⟩ := blk12 hzz
    clear hzz
    go_wp2
    refine bodyPost_ret (v := NV.val ⟨kd, fl, tx, xn, ⟨l1, l2, l3⟩, ⟨r1, r2, r3⟩, ⟨oa, on, oc⟩, ⟨ka, kn, kc⟩⟩) ?_ rfl ?_
    ·simp [results, Tryd.results67, go_sem, NV.val, bd0, str, lz, fz0, fz1, fz2, fz3, fz4, fz5, fz6, fz7, fz8, fz9, fz10, fz11, z0, z1, z2, z3, z4, z5, z6, z7, z8, z9, z10, z11]
    ·exact PtRet.tree HLT.out HB6.out HP6.out (by rw [HPE.out]) HVF.out HXF.out HFB.out
   ·have hn1 : ((nl.length : Int) == 1) = false := by rw [HTN.out]; simp; omega
    have HVF := LH (show wrapN 11 (chVal (wrapN 10) v0 r f) = [(0, ndKids 11 0 tl)] from by rw [HVE.out, wrap_more _ h1])
    clear h1
    have hzz := HZ6.out
    obtain ⟨z0, z1, z2, z3, z4, z5, z6, z7, z8, z9, z10, z11, fz0, fz1, fz2, fz3, fz4, fz5, fz6, fz7, fz8, fz9, fz10, fz11, lz⟩ := blk12 hzz
    clear hzz
    go_wp2
    refine bodyPost_ret (v := NV.val ⟨11, [], [], 0, bd0, bd0, ⟨none, 0, 0⟩, ⟨KA_, nl.length, KC_⟩⟩) ?_ rfl ?_
    ·simp [results, Tryd.results67, go_sem, NV.val, bd0, str, lz, fz0, fz1, fz2, fz3, fz4, fz5, fz6, fz7, fz8, fz9, fz10, fz11, z0, z1, z2, z3, z4, z5, z6, z7, z8, z9, z10, z11]
    ·exact PtRet.tree HLT.out HB6.out HP6.out (by rw [HPE.out]) HVF.out (NdR.mk (RdF.nil _ _ _) HK6.out.rd.1 HTN.out HK6.out.rd.2.2) HFB.out
theorem prow_1 (w : World) (pb : Nat) (PA : Option Addr) (cap : Nat) (ts : List Lt) (k : Nat) (f : List UInt8) (h : PsAt w pb PA cap ts k) (hok : TkOk ts) (M : Nat) (hR : ∀ (A : List Lt) (n : Nat) (v : Vl), D .maxes A n v → A.length < M → ∀ (w : World) (k : Nat) (f : List UInt8) (post : List Lt), ts.drop k = A ++ post → Hd post (rwK 2) → PsAt w pb PA cap ts k → Calls Tryd.prog 67 #[.pointer (some ⟨pb, 0, none⟩), .string (str f), .int .i64 2] w (PtRet pb PA cap ts (k + A.length) ((wrapN 12) (v f)) w))
  (A : List Lt) (n : Nat) (v : Vl) (post : List Lt) (hD : D .ands A n v) (hlen : A.length < M) (hd : ts.drop k = A ++ post) (hp : Hd post (rwK 1)) :
  Calls Tryd.prog 67 #[.pointer (some ⟨pb, 0, none⟩), .string (str f), .int .i64 1] w (PtRet pb PA cap ts (k + A.length) (wrapN 10 (v f)) w) := by
 obtain ⟨B0, v0, r, hch⟩ := hD.andC
 obtain ⟨rfl, rfl, ⟨nh, hh⟩, hrest⟩ := hch
 have HH := LH hh; have HRS := LH hrest; have HDD := LH hd; have HPP := LH hp
 have HLE := LH hlen
 have hlc : (chToks B0 r).length ≤ 920000000000 := by
  have h1 := congrArg List.length hd
  rw [List.length_drop, List.length_append] at h1
  have := hok.1; omega
 have HLC := LH hlc
 have HRL := LH (show r.length ≤ 920000000000 from Nat.le_trans chToks_r_le hlc)
 have HD1 := LH (show ts.drop k = B0 ++ (r.flatMap (fun y => y.b :: y.A) ++ post) from by rw [hd]; unfold chToks; rw [List.append_assoc])
 have HNX := LH (show ∀ i, Hd ((r.drop i).flatMap (fun y => y.b :: y.A) ++ post) (rwK 2) from by
  intro i
  cases hri : r.drop i with
  | nil => exact hp.less (by decide)
  | cons y s =>
   refine ⟨y.b, y.A ++ (s.flatMap (fun y => y.b :: y.A) ++ post), by rw [List.flatMap_cons]; simp [List.append_assoc], ?_⟩
   rw [(hrest y (List.mem_of_mem_drop (by rw [hri]; exact List.mem_cons_self))).1]
   decide)
 have HB0L := LH (show B0.length < M from by
  have : B0.length ≤ (chToks B0 r).length := by unfold chToks; rw [List.length_append]; omega
  omega)
 clear hD hh hrest hd hp hlen hlc
 have HLT := LH h.lt
 have hl : ts.length ≤ 920000000000 := by have := hok.1; omega
 have hBz : Below w.heap.size w ((w.alloc zO).alloc (.cells #[.int .i64 5, .int .i64 11, .int .i64 4, .int .i64 10, .int .i64 17, .int .i64 12] 117)) := ((Below.refl _ _).alloc (Nat.le_refl _) _).alloc (by rw [World.size_alloc]; omega) _
 have HA2 := LH ((h.alloc zO).alloc (.cells #[.int .i64 5, .int .i64 11, .int .i64 4, .int .i64 10, .int .i64 17, .int .i64 12] 117))
 have HZ2 := LH ((Blk.new w 27 zA).alloc (.cells #[.int .i64 5, .int .i64 11, .int .i64 4, .int .i64 10, .int .i64 17, .int .i64 12] 117))
 have HO2 := LH (show Blk ((w.alloc zO).alloc (.cells #[.int .i64 5, .int .i64 11, .int .i64 4, .int .i64 10, .int .i64 17, .int .i64 12] 117)) (w.heap.size + 1) 117 #[.int .i64 5, .int .i64 11, .int .i64 4, .int .i64 10, .int .i64 17, .int .i64 12] from by have h := Blk.new (w.alloc zO) 117 #[.int .i64 5, .int .i64 11, .int .i64 4, .int .i64 10, .int .i64 17, .int .i64 12]; rw [World.size_alloc] at h; exact h)
 have HB2 := LH (PB.of (pb := pb) hBz (Nat.le_of_lt h.lt))
 have HW2 := LH (show ((w.alloc zO).alloc (.cells #[.int .i64 5, .int .i64 11, .int .i64 4, .int .i64 10, .int .i64 17, .int .i64 12] 117)).heap.size = w.heap.size + 2 from by rw [World.size_alloc, World.size_alloc])
 clear h hBz
 go_enter Tryd.func67, Tryd.ntmps67
 go_upto_region 2 with (fail)
 generalize (w.alloc zO).alloc (.cells #[.int .i64 5, .int .i64 11, .int .i64 4, .int .i64 10, .int .i64 17, .int .i64 12] 117) = w2 at *
 go_wp2_with fail
 refine (hR B0 nh v0 HH.out HB0L.out w2 k f _ HD1.out (HNX.out 0) HA2.out).mono ?_
 rintro e w5 ⟨hb5, hp5, x, t5, rfl, hv, hx⟩
 obtain ⟨kd, fl, tx, xn, ⟨l1, l2, l3⟩, ⟨r1, r2, r3⟩, ⟨oa, on, oc⟩, ⟨ka, kn, kc⟩⟩ := x
 unfold NV.val
 simp only []
 have HR0 := LH (show RwRel w pb PA cap ts k B0 v0 r f (wrapN 12) zA #[.int .i64 5, .int .i64 11, .int .i64 4, .int .i64 10, .int .i64 17, .int .i64 12] r.length (.slice (some ⟨w5.heap.size, 0, none⟩) 1 1) (w5.alloc (.cells #[.int .i64 kd, .string (str fl), .string (str tx), .int .i64 xn, .bool l1, .bool l2, .string (str l3), .bool r1, .bool r2, .string (str r3), .slice oa on oc, .slice ka kn kc] 27)) from by
  have hn1 : w.heap.size + 2 ≤ w2.heap.size := Nat.le_of_eq HW2.out.symm
  refine ⟨0, [⟨kd, fl, tx, xn, ⟨l1, l2, l3⟩, ⟨r1, r2, r3⟩, ⟨oa, on, oc⟩, ⟨ka, kn, kc⟩⟩], [t5], rfl, Nat.zero_le _, Nat.le_refl _, ?_, KA.first hx hn1 (Nat.le_trans hn1 hb5.size), ?_, (HB2.out.trans hb5).alloc (Nat.le_of_lt HLT.out) _, (HZ2.out.zpb hb5 HLT.out).alloc _, (HO2.out.zpb hb5 (by have := HLT.out; omega)).alloc _⟩
  ·have e : (chToks B0 (r.take 0)).length = B0.length := by unfold chToks; simp
   rw [e]; exact hp5.alloc _
  ·unfold chVal
   rw [List.take_zero, List.flatMap_nil, List.append_nil, hv]; rfl)
 clear hb5 hp5 hx hv
 go_wp2
 go_loopg [8] (r.length) (fun gh kv wr => RwRel w pb PA cap ts k B0 v0 r f (wrapN 12) zA #[.int .i64 5, .int .i64 11, .int .i64 4, .int .i64 10, .int .i64 17, .int .i64 12] gh kv wr)
 case atStart => exact HR0.out
 case round =>
  clear HR0
  obtain ⟨wo, rfl⟩ : ∃ wo : World, wo = wr := ⟨_, rfl⟩
  obtain ⟨i, nl, tl, hgh, hi, hnl, hps, hka, hval, hpb, hz, hoo⟩ := hrel
  have HGH := LH hgh; have HPS := LH hps; have HKA := LH hka; have HVL := LH hval; have HPB := LH hpb; have HZ := LH hz; have HOO := LH hoo
  have HIR := LH hi; have HNL := LH hnl
  obtain ⟨KA_, KC_, rfl⟩ := hka.form
  have o0 := hoo.cell 2; have o1 := hoo.cell 3; have lo := hoo.lt
  simp only [List.getElem?_toArray, List.getElem?_cons_zero, List.getElem?_cons_succ] at o0 o1
  clear hgh hps hka hval hpb hz hoo hi hnl
  by_cases hlt : i < r.length
  ·obtain ⟨y, hy⟩ : ∃ y, r[i]? = some y := ⟨_, List.getElem?_eq_getElem hlt⟩
   have HY := LH hy
   have hyr := HRS.out y (List.mem_of_getElem? hy)
   have HDK := LH (chToks_drop HDD.out hy)
   have HT0 := LH (show ts[k + (chToks B0 (r.take i)).length]? = some y.b from by have := tk_at HDK.out 0 (t := y.b) rfl; simpa using this)
   have HTK := LH (show decide (y.b.kind = 4) = true from decide_eq_true hyr.1)
   obtain ⟨ny, hny⟩ := hyr.2
   have HNY := LH hny
   have HDN := LH (show ts.drop (k + (chToks B0 (r.take i)).length + 1) = y.A ++ ((r.drop (i + 1)).flatMap (fun y => y.b :: y.A) ++ post) from dropk (X := [y.b]) HDK.out)
   have HYL := LH (show y.A.length < M from Nat.lt_trans (chToks_len_le hy) HLE.out)
   have HPOS := LH (chToks_succ (B0 := B0) hy)
   have HVS := LH (chVal_succ (wr := wrapN 12) (v0 := v0) hy f)
   have HNEW := LH (show r.length - (i + 1) < r.length - i from by omega)
   clear hy hyr hny
   go_wp2_with fail
   refine (ptakes_at 4 HPS.out HT0.out hl).mono ?_
   rintro e w6 ⟨rfl, hb6, hp6⟩
   rw [HTK.out] at hp6 ⊢
   simp only [if_true] at hp6
   have HP6 := LH hp6; have HB6 := LH (HPB.out.trans hb6); have HZ6 := LH (HZ.out.zpb hb6 HLT.out); have HO6 := LH (HOO.out.zpb hb6 (by have := HLT.out; omega)); have HK6 := LH (HKA.out.pb hb6 (by have := HLT.out; omega))
   have HG6 := LH (fun (g : Nat) (hg : (Value.slice KA_ nl.length KC_).ownBlock = some g) => Nat.lt_of_lt_of_le (World.ownsRow.lt HKA.out.own g hg).2 hb6.size)
   clear hb6 hp6 o0 o1 lo
   go_wp2_with fail
   refine (hR y.A ny y.v HNY.out HYL.out w6 _ f _ HDN.out (HNX.out (i + 1)) HP6.out).mono ?_
   rintro e w7 ⟨hb7, hp7, x, t7, rfl, hv, hx⟩
   obtain ⟨kd, fl, tx, xn, ⟨l1, l2, l3⟩, ⟨r1, r2, r3⟩, ⟨oa, on, oc⟩, ⟨ka, kn, kc⟩⟩ := x
   unfold NV.val
   simp only []
   have HP7 := LH hp7; have HB7 := LH (HB6.out.trans hb7); have HZ7 := LH (HZ6.out.zpb hb7 HLT.out); have HO7 := LH (HO6.out.zpb hb7 (by have := HLT.out; omega)); have HK7 := LH (HK6.out.pb hb7 (by have := HLT.out; omega))
   have HX7 := LH hx; have HV7 := LH hv
   have HE7 := LH (show w.heap.size + 2 ≤ w6.heap.size from HK6.out.hB)
   clear hb7 hp7 hx hv
   go_wp2_with (at_builtin; refine OwnL.appendL ndOk HK7.out.own ⟨kd, fl, tx, xn, ⟨l1, l2, l3⟩, ⟨r1, r2, r3⟩, ⟨oa, on, oc⟩, ⟨ka, kn, kc⟩⟩ w7.heap.size rfl _ _ rfl rfl rfl #[.int .i64 kd, .string (str fl), .string (str tx), .int .i64 xn, .bool l1, .bool l2, .string (str l3), .bool r1, .bool r2, .string (str r3), .slice oa on oc, .slice ka kn kc] rfl rfl HK7.out.hB (by have := HNL.out; have := HRL.out; have := HIR.out; omega) ?_)
   intro v8 w8 ho8 hb8 hk8 hg8
   have HKA8 := LH (HK7.out.app HX7.out HE7.out HG6.out ho8 hb8 hk8 hg8)
   have hgp := fun (g : Nat) (hlt : g < w.heap.size + 2) => (show (Value.slice KA_ nl.length KC_).ownBlock ≠ some g from fun e => by have := (World.ownsRow.lt HK7.out.own g e).1; omega)
   have HP8 := LH (HP7.out.keptN (hb8.mono (by have := HLT.out; omega)) hk8 (hgp pb (by have := HLT.out; omega)))
   have HB8 := LH (HB7.out.low hb8 (show w.heap.size ≤ w.heap.size + 2 by omega) (Nat.le_of_lt HLT.out))
   have HZ8 := LH (HZ7.out.below hb8 (show w.heap.size < w.heap.size + 2 by omega))
   have HO8 := LH (HO7.out.below hb8 (show w.heap.size + 1 < w.heap.size + 2 by omega))
   clear ho8 hb8 hk8 hg8 hgp
   go_wp2
   go_roundg (r.length - (i + 1))
   case measure => rw [HGH.out]; exact HNEW.out
   case rel =>
    refine ⟨i + 1, _, tl ++ [t7], rfl, hlt, ?_, ?_, HKA8.out, ?_, HB8.out, HZ8.out, HO8.out⟩
    ·rw [List.length_append, List.length_singleton]; have := HNL.out; omega
    ·rw [HPOS.out, ← Nat.add_assoc, ← Nat.add_assoc]; exact HP8.out
    ·rw [HVS.out, HVL.out, HV7.out, zr_snoc]
  ·have hie : i = r.length := by have := HIR.out; omega
   obtain ⟨p, pr, hpp, hpk⟩ := HPP.out
   have HT0 := LH (show ts[k + (chToks B0 (r.take i)).length]? = some p from by
    have h1 : ts.drop (k + (chToks B0 r).length) = post := dropk HDD.out
    rw [hie, List.take_length]
    have := tk_at (A := []) (j := 0) (h1.trans (List.nil_append post).symm) (t := p) (by rw [hpp]; rfl)
    simpa using this)
   have HTK := LH (show decide (p.kind = 4) = false from decide_eq_false (fun h => hpk (by rw [h]; decide)))
   have HPE := LH (show (chToks B0 (r.take i)).length = (chToks B0 r).length from by rw [hie, List.take_length])
   have HVE := LH (show chVal (wrapN 12) v0 r f = zr tl from by rw [← HVL.out, hie, List.take_length])
   clear hpp hpk hie
   go_wp2_with fail
   refine (ptakes_at 4 HPS.out HT0.out hl).mono ?_
   rintro e w6 ⟨rfl, hb6, hp6⟩
   rw [HTK.out] at hp6 ⊢
   simp only [Bool.false_eq_true, if_false] at hp6
   have HP6 := LH hp6; have HB6 := LH (HPB.out.trans hb6); have HZ6 := LH (HZ.out.zpb hb6 HLT.out); have HO6 := LH (HOO.out.zpb hb6 (by have := HLT.out; omega)); have HK6 := LH (HKA.out.pb hb6 (by have := HLT.out; omega))
   clear hb6 hp6 o0 o1 lo
   have o1 := HO6.out.cell 3; have lo := HO6.out.lt
   simp only [List.getElem?_toArray, List.getElem?_cons_zero, List.getElem?_cons_succ] at o1
   have HFB := LH (fun (b : Nat) (h : rng (w.heap.size + 2) w6.heap.size b) => (show w.heap.size < b ∧ b < w6.heap.size from ⟨by have := h.1; omega, h.2⟩))
   have HTN := LH HK6.out.trees.1
   by_cases h1 : tl.length = 1
   ·obtain ⟨t0, rfl⟩ := List.length_eq_one_iff.1 h1
    have hn1 : nl.length = 1 := by rw [HTN.out]; exact h1
    obtain ⟨x0, rfl⟩ := List.length_eq_one_iff.1 hn1
    obtain ⟨b0, hb0, hbF, hbl, hc0, hc⟩ := HK6.out.rd.1.nd0
    subst hb0
    obtain ⟨kd, fl, tx, xn, ⟨l1, l2, l3⟩, ⟨r1, r2, r3⟩, ⟨oa, on, oc⟩, ⟨ka, kn, kc⟩⟩ := x0
    have d1 := hc 0 _ rfl; have d2 := hc 1 _ rfl; have d3 := hc 2 _ rfl; have d4 := hc 3 _ rfl; have d5 := hc 4 _ rfl; have d6 := hc 5 _ rfl
    have d7 := hc 6 _ rfl; have d8 := hc 7 _ rfl; have d9 := hc 8 _ rfl; have d10 := hc 9 _ rfl; have d11 := hc 10 _ rfl
    simp only [Nat.zero_add, Nat.reduceAdd] at d1 d2 d3 d4 d5 d6 d7 d8 d9 d10 d11 hc0
    have HXF := LH (HK6.out.rd.2.2 0 _ _ rfl rfl)
    have HVF := LH (show wrapN 10 (chVal (wrapN 12) v0 r f) = [(0, t0)] from by rw [HVE.out, wrap_one])
    clear hc h1 hn1 hbF
    have hzz := HZ6.out
    obtain ⟨z0, z1, z2, z3, z4, z5, z6, z7, z8, z9, z10, z11, fz0, fz1, fz2, fz3, fz4, fz5, fz6, fz7, fz8, fz9, fz10, fz11, lz⟩ := blk12 hzz
    clear hzz
    go_wp2
    refine bodyPost_ret (v := NV.val ⟨kd, fl, tx, xn, ⟨l1, l2, l3⟩, ⟨r1, r2, r3⟩, ⟨oa, on, oc⟩, ⟨ka, kn, kc⟩⟩) ?_ rfl ?_
    ·simp [results, Tryd.results67, go_sem, NV.val, bd0, str, lz, fz0, fz1, fz2, fz3, fz4, fz5, fz6, fz7, fz8, fz9, fz10, fz11, z0, z1, z2, z3, z4, z5, z6, z7, z8, z9, z10, z11]
    ·exact PtRet.tree HLT.out HB6.out HP6.out (by rw [HPE.out]) HVF.out HXF.out HFB.out
   ·have hn1 : ((nl.length : Int) == 1) = false := by rw [HTN.out]; simp; omega
    have HVF := LH (show wrapN 10 (chVal (wrapN 12) v0 r f) = [(0, ndKids 10 0 tl)] from by rw [HVE.out, wrap_more _ h1])
    clear h1
    have hzz := HZ6.out
    obtain ⟨z0, z1, z2, z3, z4, z5, z6, z7, z8, z9, z10, z11, fz0, fz1, fz2, fz3, fz4, fz5, fz6, fz7, fz8, fz9, fz10, fz11, lz⟩ := blk12 hzz
    clear hzz
    go_wp2
    refine bodyPost_ret (v := NV.val ⟨10, [], [], 0, bd0, bd0, ⟨none, 0, 0⟩, ⟨KA_, nl.length, KC_⟩⟩) ?_ rfl ?_
    ·simp [results, Tryd.results67, go_sem, NV.val, bd0, str, lz, fz0, fz1, fz2, fz3, fz4, fz5, fz6, fz7, fz8, fz9, fz10, fz11, z0, z1, z2, z3, z4, z5, z6, z7, z8, z9, z10, z11]
    ·exact PtRet.tree HLT.out HB6.out HP6.out (by rw [HPE.out]) HVF.out (NdR.mk (RdF.nil _ _ _) HK6.out.rd.1 HTN.out HK6.out.rd.2.2) HFB.out
theorem prow_2 (w : World) (pb : Nat) (PA : Option Addr) (cap : Nat) (ts : List Lt) (k : Nat) (f : List UInt8) (h : PsAt w pb PA cap ts k) (hok : TkOk ts) (M : Nat) (hR : ∀ (A : List Lt) (n : Nat) (v : Vl), D .unary A n v → A.length < M → ∀ (w : World) (k : Nat) (f : List UInt8) (post : List Lt), ts.drop k = A ++ post → Hd post (rwK 3) → PsAt w pb PA cap ts k → Calls Tryd.prog 67 #[.pointer (some ⟨pb, 0, none⟩), .string (str f), .int .i64 3] w (PtRet pb PA cap ts (k + A.length) ((id) (v f)) w))
  (A : List Lt) (n : Nat) (v : Vl) (post : List Lt) (hD : D .maxes A n v) (hlen : A.length < M) (hd : ts.drop k = A ++ post) (hp : Hd post (rwK 2)) :
  Calls Tryd.prog 67 #[.pointer (some ⟨pb, 0, none⟩), .string (str f), .int .i64 2] w (PtRet pb PA cap ts (k + A.length) (wrapN 12 (v f)) w) := by
 obtain ⟨B0, v0, r, hch⟩ := hD.maxC
 obtain ⟨rfl, rfl, ⟨nh, hh⟩, hrest⟩ := hch
 have HH := LH hh; have HRS := LH hrest; have HDD := LH hd; have HPP := LH hp
 have HLE := LH hlen
 have hlc : (chToks B0 r).length ≤ 920000000000 := by
  have h1 := congrArg List.length hd
  rw [List.length_drop, List.length_append] at h1
  have := hok.1; omega
 have HLC := LH hlc
 have HRL := LH (show r.length ≤ 920000000000 from Nat.le_trans chToks_r_le hlc)
 have HD1 := LH (show ts.drop k = B0 ++ (r.flatMap (fun y => y.b :: y.A) ++ post) from by rw [hd]; unfold chToks; rw [List.append_assoc])
 have HNX := LH (show ∀ i, Hd ((r.drop i).flatMap (fun y => y.b :: y.A) ++ post) (rwK 3) from by
  intro i
  cases hri : r.drop i with
  | nil => exact hp.less (by decide)
  | cons y s =>
   refine ⟨y.b, y.A ++ (s.flatMap (fun y => y.b :: y.A) ++ post), by rw [List.flatMap_cons]; simp [List.append_assoc], ?_⟩
   rw [(hrest y (List.mem_of_mem_drop (by rw [hri]; exact List.mem_cons_self))).1]
   decide)
 have HB0L := LH (show B0.length < M from by
  have : B0.length ≤ (chToks B0 r).length := by unfold chToks; rw [List.length_append]; omega
  omega)
 clear hD hh hrest hd hp hlen hlc
 have HLT := LH h.lt
 have hl : ts.length ≤ 920000000000 := by have := hok.1; omega
 have hBz : Below w.heap.size w ((w.alloc zO).alloc (.cells #[.int .i64 5, .int .i64 11, .int .i64 4, .int .i64 10, .int .i64 17, .int .i64 12] 117)) := ((Below.refl _ _).alloc (Nat.le_refl _) _).alloc (by rw [World.size_alloc]; omega) _
 have HA2 := LH ((h.alloc zO).alloc (.cells #[.int .i64 5, .int .i64 11, .int .i64 4, .int .i64 10, .int .i64 17, .int .i64 12] 117))
 have HZ2 := LH ((Blk.new w 27 zA).alloc (.cells #[.int .i64 5, .int .i64 11, .int .i64 4, .int .i64 10, .int .i64 17, .int .i64 12] 117))
 have HO2 := LH (show Blk ((w.alloc zO).alloc (.cells #[.int .i64 5, .int .i64 11, .int .i64 4, .int .i64 10, .int .i64 17, .int .i64 12] 117)) (w.heap.size + 1) 117 #[.int .i64 5, .int .i64 11, .int .i64 4, .int .i64 10, .int .i64 17, .int .i64 12] from by have h := Blk.new (w.alloc zO) 117 #[.int .i64 5, .int .i64 11, .int .i64 4, .int .i64 10, .int .i64 17, .int .i64 12]; rw [World.size_alloc] at h; exact h)
 have HB2 := LH (PB.of (pb := pb) hBz (Nat.le_of_lt h.lt))
 have HW2 := LH (show ((w.alloc zO).alloc (.cells #[.int .i64 5, .int .i64 11, .int .i64 4, .int .i64 10, .int .i64 17, .int .i64 12] 117)).heap.size = w.heap.size + 2 from by rw [World.size_alloc, World.size_alloc])
 clear h hBz
 go_enter Tryd.func67, Tryd.ntmps67
 go_upto_region 2 with (fail)
 generalize (w.alloc zO).alloc (.cells #[.int .i64 5, .int .i64 11, .int .i64 4, .int .i64 10, .int .i64 17, .int .i64 12] 117) = w2 at *
 go_wp2_with fail
 refine (hR B0 nh v0 HH.out HB0L.out w2 k f _ HD1.out (HNX.out 0) HA2.out).mono ?_
 rintro e w5 ⟨hb5, hp5, x, t5, rfl, hv, hx⟩
 obtain ⟨kd, fl, tx, xn, ⟨l1, l2, l3⟩, ⟨r1, r2, r3⟩, ⟨oa, on, oc⟩, ⟨ka, kn, kc⟩⟩ := x
 unfold NV.val
 simp only []
 have HR0 := LH (show RwRel w pb PA cap ts k B0 v0 r f (id) zA #[.int .i64 5, .int .i64 11, .int .i64 4, .int .i64 10, .int .i64 17, .int .i64 12] r.length (.slice (some ⟨w5.heap.size, 0, none⟩) 1 1) (w5.alloc (.cells #[.int .i64 kd, .string (str fl), .string (str tx), .int .i64 xn, .bool l1, .bool l2, .string (str l3), .bool r1, .bool r2, .string (str r3), .slice oa on oc, .slice ka kn kc] 27)) from by
  have hn1 : w.heap.size + 2 ≤ w2.heap.size := Nat.le_of_eq HW2.out.symm
  refine ⟨0, [⟨kd, fl, tx, xn, ⟨l1, l2, l3⟩, ⟨r1, r2, r3⟩, ⟨oa, on, oc⟩, ⟨ka, kn, kc⟩⟩], [t5], rfl, Nat.zero_le _, Nat.le_refl _, ?_, KA.first hx hn1 (Nat.le_trans hn1 hb5.size), ?_, (HB2.out.trans hb5).alloc (Nat.le_of_lt HLT.out) _, (HZ2.out.zpb hb5 HLT.out).alloc _, (HO2.out.zpb hb5 (by have := HLT.out; omega)).alloc _⟩
  ·have e : (chToks B0 (r.take 0)).length = B0.length := by unfold chToks; simp
   rw [e]; exact hp5.alloc _
  ·unfold chVal
   rw [List.take_zero, List.flatMap_nil, List.append_nil, hv]; rfl)
 clear hb5 hp5 hx hv
 go_wp2
 go_loopg [8] (r.length) (fun gh kv wr => RwRel w pb PA cap ts k B0 v0 r f (id) zA #[.int .i64 5, .int .i64 11, .int .i64 4, .int .i64 10, .int .i64 17, .int .i64 12] gh kv wr)
 case atStart => exact HR0.out
 case round =>
  clear HR0
  obtain ⟨wo, rfl⟩ : ∃ wo : World, wo = wr := ⟨_, rfl⟩
  obtain ⟨i, nl, tl, hgh, hi, hnl, hps, hka, hval, hpb, hz, hoo⟩ := hrel
  have HGH := LH hgh; have HPS := LH hps; have HKA := LH hka; have HVL := LH hval; have HPB := LH hpb; have HZ := LH hz; have HOO := LH hoo
  have HIR := LH hi; have HNL := LH hnl
  obtain ⟨KA_, KC_, rfl⟩ := hka.form
  have o0 := hoo.cell 4; have o1 := hoo.cell 5; have lo := hoo.lt
  simp only [List.getElem?_toArray, List.getElem?_cons_zero, List.getElem?_cons_succ] at o0 o1
  clear hgh hps hka hval hpb hz hoo hi hnl
  by_cases hlt : i < r.length
  ·obtain ⟨y, hy⟩ : ∃ y, r[i]? = some y := ⟨_, List.getElem?_eq_getElem hlt⟩
   have HY := LH hy
   have hyr := HRS.out y (List.mem_of_getElem? hy)
   have HDK := LH (chToks_drop HDD.out hy)
   have HT0 := LH (show ts[k + (chToks B0 (r.take i)).length]? = some y.b from by have := tk_at HDK.out 0 (t := y.b) rfl; simpa using this)
   have HTK := LH (show decide (y.b.kind = 17) = true from decide_eq_true hyr.1)
   obtain ⟨ny, hny⟩ := hyr.2
   have HNY := LH hny
   have HDN := LH (show ts.drop (k + (chToks B0 (r.take i)).length + 1) = y.A ++ ((r.drop (i + 1)).flatMap (fun y => y.b :: y.A) ++ post) from dropk (X := [y.b]) HDK.out)
   have HYL := LH (show y.A.length < M from Nat.lt_trans (chToks_len_le hy) HLE.out)
   have HPOS := LH (chToks_succ (B0 := B0) hy)
   have HVS := LH (chVal_succ (wr := id) (v0 := v0) hy f)
   have HNEW := LH (show r.length - (i + 1) < r.length - i from by omega)
   clear hy hyr hny
   go_wp2_with fail
   refine (ptakes_at 17 HPS.out HT0.out hl).mono ?_
   rintro e w6 ⟨rfl, hb6, hp6⟩
   rw [HTK.out] at hp6 ⊢
   simp only [if_true] at hp6
   have HP6 := LH hp6; have HB6 := LH (HPB.out.trans hb6); have HZ6 := LH (HZ.out.zpb hb6 HLT.out); have HO6 := LH (HOO.out.zpb hb6 (by have := HLT.out; omega)); have HK6 := LH (HKA.out.pb hb6 (by have := HLT.out; omega))
   have HG6 := LH (fun (g : Nat) (hg : (Value.slice KA_ nl.length KC_).ownBlock = some g) => Nat.lt_of_lt_of_le (World.ownsRow.lt HKA.out.own g hg).2 hb6.size)
   clear hb6 hp6 o0 o1 lo
   go_wp2_with fail
   refine (hR y.A ny y.v HNY.out HYL.out w6 _ f _ HDN.out (HNX.out (i + 1)) HP6.out).mono ?_
   rintro e w7 ⟨hb7, hp7, x, t7, rfl, hv, hx⟩
   obtain ⟨kd, fl, tx, xn, ⟨l1, l2, l3⟩, ⟨r1, r2, r3⟩, ⟨oa, on, oc⟩, ⟨ka, kn, kc⟩⟩ := x
   unfold NV.val
   simp only []
   have HP7 := LH hp7; have HB7 := LH (HB6.out.trans hb7); have HZ7 := LH (HZ6.out.zpb hb7 HLT.out); have HO7 := LH (HO6.out.zpb hb7 (by have := HLT.out; omega)); have HK7 := LH (HK6.out.pb hb7 (by have := HLT.out; omega))
   have HX7 := LH hx; have HV7 := LH hv
   have HE7 := LH (show w.heap.size + 2 ≤ w6.heap.size from HK6.out.hB)
   clear hb7 hp7 hx hv
   go_wp2_with (at_builtin; refine OwnL.appendL ndOk HK7.out.own ⟨kd, fl, tx, xn, ⟨l1, l2, l3⟩, ⟨r1, r2, r3⟩, ⟨oa, on, oc⟩, ⟨ka, kn, kc⟩⟩ w7.heap.size rfl _ _ rfl rfl rfl #[.int .i64 kd, .string (str fl), .string (str tx), .int .i64 xn, .bool l1, .bool l2, .string (str l3), .bool r1, .bool r2, .string (str r3), .slice oa on oc, .slice ka kn kc] rfl rfl HK7.out.hB (by have := HNL.out; have := HRL.out; have := HIR.out; omega) ?_)
   intro v8 w8 ho8 hb8 hk8 hg8
   have HKA8 := LH (HK7.out.app HX7.out HE7.out HG6.out ho8 hb8 hk8 hg8)
   have hgp := fun (g : Nat) (hlt : g < w.heap.size + 2) => (show (Value.slice KA_ nl.length KC_).ownBlock ≠ some g from fun e => by have := (World.ownsRow.lt HK7.out.own g e).1; omega)
   have HP8 := LH (HP7.out.keptN (hb8.mono (by have := HLT.out; omega)) hk8 (hgp pb (by have := HLT.out; omega)))
   have HB8 := LH (HB7.out.low hb8 (show w.heap.size ≤ w.heap.size + 2 by omega) (Nat.le_of_lt HLT.out))
   have HZ8 := LH (HZ7.out.below hb8 (show w.heap.size < w.heap.size + 2 by omega))
   have HO8 := LH (HO7.out.below hb8 (show w.heap.size + 1 < w.heap.size + 2 by omega))
   clear ho8 hb8 hk8 hg8 hgp
   go_wp2
   go_roundg (r.length - (i + 1))
   case measure => rw [HGH.out]; exact HNEW.out
   case rel =>
    refine ⟨i + 1, _, tl ++ [t7], rfl, hlt, ?_, ?_, HKA8.out, ?_, HB8.out, HZ8.out, HO8.out⟩
    ·rw [List.length_append, List.length_singleton]; have := HNL.out; omega
    ·rw [HPOS.out, ← Nat.add_assoc, ← Nat.add_assoc]; exact HP8.out
    ·rw [HVS.out, HVL.out, HV7.out, zr_snoc]
  ·have hie : i = r.length := by have := HIR.out; omega
   obtain ⟨p, pr, hpp, hpk⟩ := HPP.out
   have HT0 := LH (show ts[k + (chToks B0 (r.take i)).length]? = some p from by
    have h1 : ts.drop (k + (chToks B0 r).length) = post := dropk HDD.out
    rw [hie, List.take_length]
    have := tk_at (A := []) (j := 0) (h1.trans (List.nil_append post).symm) (t := p) (by rw [hpp]; rfl)
    simpa using this)
   have HTK := LH (show decide (p.kind = 17) = false from decide_eq_false (fun h => hpk (by rw [h]; decide)))
   have HPE := LH (show (chToks B0 (r.take i)).length = (chToks B0 r).length from by rw [hie, List.take_length])
   have HVE := LH (show chVal (id) v0 r f = zr tl from by rw [← HVL.out, hie, List.take_length])
   clear hpp hpk hie
   go_wp2_with fail
   refine (ptakes_at 17 HPS.out HT0.out hl).mono ?_
   rintro e w6 ⟨rfl, hb6, hp6⟩
   rw [HTK.out] at hp6 ⊢
   simp only [Bool.false_eq_true, if_false] at hp6
   have HP6 := LH hp6; have HB6 := LH (HPB.out.trans hb6); have HZ6 := LH (HZ.out.zpb hb6 HLT.out); have HO6 := LH (HOO.out.zpb hb6 (by have := HLT.out; omega)); have HK6 := LH (HKA.out.pb hb6 (by have := HLT.out; omega))
   clear hb6 hp6 o0 o1 lo
   have o1 := HO6.out.cell 5; have lo := HO6.out.lt
   simp only [List.getElem?_toArray, List.getElem?_cons_zero, List.getElem?_cons_succ] at o1
   have HFB := LH (fun (b : Nat) (h : rng (w.heap.size + 2) w6.heap.size b) => (show w.heap.size < b ∧ b < w6.heap.size from ⟨by have := h.1; omega, h.2⟩))
   have HTN := LH HK6.out.trees.1
   by_cases h1 : tl.length = 1
   ·obtain ⟨t0, rfl⟩ := List.length_eq_one_iff.1 h1
    have hn1 : nl.length = 1 := by rw [HTN.out]; exact h1
    obtain ⟨x0, rfl⟩ := List.length_eq_one_iff.1 hn1
    obtain ⟨b0, hb0, hbF, hbl, hc0, hc⟩ := HK6.out.rd.1.nd0
    subst hb0
    obtain ⟨kd, fl, tx, xn, ⟨l1, l2, l3⟩, ⟨r1, r2, r3⟩, ⟨oa, on, oc⟩, ⟨ka, kn, kc⟩⟩ := x0
    have d1 := hc 0 _ rfl; have d2 := hc 1 _ rfl; have d3 := hc 2 _ rfl; have d4 := hc 3 _ rfl; have d5 := hc 4 _ rfl; have d6 := hc 5 _ rfl
    have d7 := hc 6 _ rfl; have d8 := hc 7 _ rfl; have d9 := hc 8 _ rfl; have d10 := hc 9 _ rfl; have d11 := hc 10 _ rfl
    simp only [Nat.zero_add, Nat.reduceAdd] at d1 d2 d3 d4 d5 d6 d7 d8 d9 d10 d11 hc0
    have HXF := LH (HK6.out.rd.2.2 0 _ _ rfl rfl)
    have HVF := LH (show wrapN 12 (chVal (id) v0 r f) = [(0, t0)] from by rw [HVE.out, wrap_one])
    clear hc h1 hn1 hbF
    have hzz := HZ6.out
    obtain ⟨z0, z1, z2, z3, z4, z5, z6, z7, z8, z9, z10, z11, fz0, fz1, fz2, fz3, fz4, fz5, fz6, fz7, fz8, fz9, fz10, fz11, lz⟩ := blk12 hzz
    clear hzz
    go_wp2
    refine bodyPost_ret (v := NV.val ⟨kd, fl, tx, xn, ⟨l1, l2, l3⟩, ⟨r1, r2, r3⟩, ⟨oa, on, oc⟩, ⟨ka, kn, kc⟩⟩) ?_ rfl ?_
    ·simp [results, Tryd.results67, go_sem, NV.val, bd0, str, lz, fz0, fz1, fz2, fz3, fz4, fz5, fz6, fz7, fz8, fz9, fz10, fz11, z0, z1, z2, z3, z4, z5, z6, z7, z8, z9, z10, z11]
    ·exact PtRet.tree HLT.out HB6.out HP6.out (by rw [HPE.out]) HVF.out HXF.out HFB.out
   ·have hn1 : ((nl.length : Int) == 1) = false := by rw [HTN.out]; simp; omega
    have HVF := LH (show wrapN 12 (chVal (id) v0 r f) = [(0, ndKids 12 0 tl)] from by rw [HVE.out, wrap_more _ h1])
    clear h1
    have hzz := HZ6.out
    obtain ⟨z0, z1, z2, z3, z4, z5, z6, z7, z8, z9, z10, z11, fz0, fz1, fz2, fz3, fz4, fz5, fz6, fz7, fz8, fz9, fz10, fz11, lz⟩ := blk12 hzz
    clear hzz
    go_wp2
    refine bodyPost_ret (v := NV.val ⟨12, [], [], 0, bd0, bd0, ⟨none, 0, 0⟩, ⟨KA_, nl.length, KC_⟩⟩) ?_ rfl ?_
    ·simp [results, Tryd.results67, go_sem, NV.val, bd0, str, lz, fz0, fz1, fz2, fz3, fz4, fz5, fz6, fz7, fz8, fz9, fz10, fz11, z0, z1, z2, z3, z4, z5, z6, z7, z8, z9, z10, z11]
    ·exact PtRet.tree HLT.out HB6.out HP6.out (by rw [HPE.out]) HVF.out (NdR.mk (RdF.nil _ _ _) HK6.out.rd.1 HTN.out HK6.out.rd.2.2) HFB.out
theorem prow_of {pb : Nat} {PA : Option Addr} {cap : Nat} {ts : List Lt} {M : Nat} (hok : TkOk ts) (hU : UnOk pb PA cap ts M) : RwOk pb PA cap ts M 0 := by
 have h2 : RwOk pb PA cap ts M 2 := fun A n v hD hlen w k f post hd hp h =>
  prow_2 w pb PA cap ts k f h hok M (fun A n v hD hlen w k f post hd hp h => prow_3 w pb PA cap ts k f h hok M hU A n v post hD hlen hd hp) A n v post hD hlen hd hp
 have h1 : RwOk pb PA cap ts M 1 := fun A n v hD hlen w k f post hd hp h =>
  prow_1 w pb PA cap ts k f h hok M (fun A n v hD hlen w k f post hd hp h => h2 A n v hD hlen w k f post hd hp h) A n v post hD hlen hd hp
 exact fun A n v hD hlen w k f post hd hp h =>
  prow_0 w pb PA cap ts k f h hok M (fun A n v hD hlen w k f post hd hp h => h1 A n v hD hlen w k f post hd hp h) A n v post hD hlen hd hp
end Go.Proofs.YthcldpminmhgkaaDoor
end
