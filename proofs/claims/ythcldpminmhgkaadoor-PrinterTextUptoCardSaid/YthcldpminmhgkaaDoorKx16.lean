/- Merged for a claim by shake.py: Uh -/
import Derived.Test.YthcldpminmhgkaaDoorKxA
import Derived.Test.YthcldpminmhgkaaDoorKx15
set_option maxRecDepth 100000
set_option maxHeartbeats 8000000
set_option linter.unusedSimpArgs false
set_option linter.unusedVariables false
section
namespace Go.Proofs.YthcldpminmhgkaaDoor
open Go.RowKit
def lstN (n : Int) (l : List (Int × Nd)) : Nd := if 0 < n then ndList n l else treeN l
theorem dropk {α : Type} {ts X Y : List α} {k : Nat} (h : ts.drop k = X ++ Y) : ts.drop (k + X.length) = Y := by
 rw [← List.drop_drop, h, List.drop_left]
theorem Blk.zpb {w w' : World} {pb g : Nat} {t : TypeId} {cs : Array Value} (h : Blk w g t cs) (hb : PB pb w w') (hp : pb < g) : Blk w' g t cs := h.pb hb (by omega)
theorem patom_leaf (w : World) (pb : Nat) (PA : Option Addr) (cap : Nat) (ts : List Lt) (k : Nat) (f : List UInt8) (h : PsAt w pb PA cap ts k) (hok : TkOk ts) (A : List Lt) (n : Nat) (v : Vl) (post : List Lt) (hD : D .leaf A n v) (hd : ts.drop k = A ++ post) (hp : Hd post [14, 20, 21]) :
  Calls Tryd.prog 91 #[.pointer (some ⟨pb, 0, none⟩), .string (str f)] w (PtRet pb PA cap ts (k + A.length) (v f) w) := by
 obtain ⟨t, r, hA, ht8, hr14⟩ := leaf_hd hD
 have h0 : ts[k]? = some t := tk_at (j := 0) hd (by rw [hA]; rfl)
 have hu : ∃ u, ts[k + 1]? = some u ∧ u.kind ≠ 14 := by
  cases r with
  | nil =>
   obtain ⟨p, s, hpp, hpk⟩ := hp
   exact ⟨p, tk_at (j := 1) hd (by rw [hA, hpp]; rfl), fun e => hpk (by rw [e]; decide)⟩
  | cons u s => exact ⟨u, tk_at (j := 1) hd (by rw [hA]; rfl), hr14 u s rfl⟩
 obtain ⟨u, h1, hu14⟩ := hu
 have e8n : ((t.kind : Int) != 8) = true := by simpa using ht8
 have e14 : ((u.kind : Int) == 14) = false := by simpa using hu14
 have HD0 := LH hD; have HDD := LH hd; have HPP := LH hp
 have HK8 := LH (show decide (t.kind = 8) = false from decide_eq_false ht8)
 clear hD hd hp hA ht8 hr14 hu14
 have HLT := LH h.lt
 have hl : ts.length ≤ 920000000000 := by have := hok.1; omega
 have HA1 := LH (h.alloc zO)
 have HZ1 := LH (Blk.new w 27 zA)
 have HB1 := LH (PB.of (pb := pb) ((Below.refl w.heap.size w).alloc (Nat.le_refl _) zO) (Nat.le_of_lt h.lt))
 have hw1 : (w.alloc zO).heap.size = w.heap.size + 1 := World.size_alloc _ _
 have HW1 := LH hw1
 clear h hw1
 go_enter Tryd.func91, Tryd.ntmps91
 go_upto_region 1 with (fail)
 generalize w.alloc zO = w1 at *
 have c0 := HA1.out.blk.cell 0; have c1 := HA1.out.blk.cell 1
 simp only [List.getElem?_toArray, List.getElem?_cons_zero, List.getElem?_cons_succ] at c0 c1
 obtain ⟨a, rfl, hab, q0⟩ := kat HA1.out.rd h0
 have hkl : k < ts.length := (List.getElem?_eq_some_iff.1 h0).1
 obtain ⟨a', ha', hab', q1⟩ := kat HA1.out.rd h1
 cases ha'
 have hkl1 : k + 1 < ts.length := (List.getElem?_eq_some_iff.1 h1).1
 have hwk : IntKind.i64.wrap ((k : Int) + 1) = (k : Int) + 1 := IntWalk.i64_in _ (by omega)
 have hk0 : 0 ≤ (k : Int) + 1 := by omega
 have hkt : ((k : Int) + 1).toNat = k + 1 := by omega
 have hklt : (k : Int) + 1 < (ts.length : Int) := by omega
 clear hab' 
 go_quiet (fail)
 have HA1d := LH (HA1.out.belowW (below_drewN (Below.refl _ _) nq))
 have HZ1d := LH (HZ1.out.drewN nq)
 have HB1d := LH (HB1.out.trans (PB.of (below_drewN (Below.refl _ _) nq) (Nat.le_of_lt HA1.out.lt)))
 clear c0 c1 q0 q1 hkt hk0 hklt
 generalize w1.drewN nq = w2 at *
 clear HA1 HZ1 HB1
 go_wp2_with fail
 refine (ptakes_at 8 HA1d.out h0 hl).mono ?_
 rintro e w4 ⟨rfl, hbt, hpt⟩
 rw [HK8.out] at hpt ⊢
 simp only [Bool.false_eq_true, if_false, if_true] at hpt
 have HP4 := LH hpt; have HB4 := LH (HB1d.out.trans hbt); have HZ4 := LH (HZ1d.out.zpb hbt HLT.out)
 clear hbt hpt
 go_wp2_with fail
 refine (pleaf_any HD0.out hok w4 (k) f post HDD.out HPP.out HP4.out).mono ?_
 rintro e w5 ⟨hb5, hp5, x, t5, rfl, hv, hx⟩
 obtain ⟨kd, fl, tx, xn, ⟨l1, l2, l3⟩, ⟨r1, r2, r3⟩, ⟨oa, on, oc⟩, ⟨ka, kn, kc⟩⟩ := x
 unfold NV.val
 simp only []
 have HB5 := LH (HB4.out.trans hb5); have HP5 := LH hp5; have HZ5 := LH (HZ4.out.zpb hb5 HLT.out)
 have HX5 := LH hx; have HV5 := LH hv
 have HFB := LH (fun (b : Nat) (h : rng w4.heap.size w5.heap.size b) => (show w.heap.size < b ∧ b < w5.heap.size from ⟨Nat.lt_of_lt_of_le HZ4.out.lt h.1, h.2⟩))
 clear hb5 hp5 hx hv
 have hzz := HZ5.out
 obtain ⟨z0, z1, z2, z3, z4, z5, z6, z7, z8, z9, z10, z11, fz0, fz1, fz2, fz3, fz4, fz5, fz6, fz7, fz8, fz9, fz10, fz11, lz⟩ := blk12 hzz
 clear hzz
 go_wp2
 refine bodyPost_ret (v := NV.val ⟨kd, fl, tx, xn, ⟨l1, l2, l3⟩, ⟨r1, r2, r3⟩, ⟨oa, on, oc⟩, ⟨ka, kn, kc⟩⟩) ?_ rfl ?_
 ·simp [results, Tryd.results91, go_sem, NV.val, bd0, str, lz, fz0, fz1, fz2, fz3, fz4, fz5, fz6, fz7, fz8, fz9, fz10, fz11, z0, z1, z2, z3, z4, z5, z6, z7, z8, z9, z10, z11]
 ·exact PtRet.tree HLT.out HB5.out HP5.out (rfl) HV5.out HX5.out HFB.out
theorem patom_group (w : World) (pb : Nat) (PA : Option Addr) (cap : Nat) (ts : List Lt) (k : Nat) (f : List UInt8) (h : PsAt w pb PA cap ts k) (hok : TkOk ts) (M : Nat) (hL : LsOk pb PA cap ts M) (o c : Lt) (A0 : List Lt) (n0 : Nat) (v0 : Vl) (post : List Lt) (hD : D .list A0 n0 v0) (hlen : A0.length < M) (ho8 : o.kind = 8) (hc9 : c.kind = 9) (hd : ts.drop k = (o :: (A0 ++ [c])) ++ post) (hp : Hd post [14, 20, 21]) :
  Calls Tryd.prog 91 #[.pointer (some ⟨pb, 0, none⟩), .string (str f)] w (PtRet pb PA cap ts (k + (o :: (A0 ++ [c])).length) [(0, treeN (v0 f))] w) := by
 have h0 : ts[k]? = some o := tk_at (j := 0) hd rfl
 have e8n : ((o.kind : Int) != 8) = false := by rw [ho8]; rfl
 have HK8 := LH (show decide (o.kind = 8) = true from decide_eq_true ho8)
 have hdr : ts.drop (k + 1) = A0 ++ (c :: (post)) := by
  have h1 := dropk (X := [o]) (Y := A0 ++ (c :: (post))) (ts := ts) (k := k) (by rw [hd]; simp)
  exact h1
 have HDL := LH hdr
 have hdc : ts.drop (k + 1 + A0.length) = c :: (post) := dropk hdr
 have HCT := LH (show ts[k + 1 + A0.length]? = some c from by have := tk_at (A := [c]) (j := 0) hdc rfl; simpa using this)
 have HD0 := LH hD
 obtain ⟨p, pr, hpp, hpk⟩ := hp
 have HPT := LH (show ts[k + 1 + A0.length + 1]? = some p from tk_at (A := [c]) (j := 1) hdc (by rw [hpp]; rfl))
 have e21 : ((p.kind : Int) == 21) = false := by simpa using fun h : p.kind = 21 => hpk (by rw [h]; decide)
 clear hpk
 clear hd hdr hdc ho8 hD
 have HLT := LH h.lt
 have hl : ts.length ≤ 920000000000 := by have := hok.1; omega
 have HA1 := LH (h.alloc zO)
 have HZ1 := LH (Blk.new w 27 zA)
 have HB1 := LH (PB.of (pb := pb) ((Below.refl w.heap.size w).alloc (Nat.le_refl _) zO) (Nat.le_of_lt h.lt))
 have hw1 : (w.alloc zO).heap.size = w.heap.size + 1 := World.size_alloc _ _
 have HW1 := LH hw1
 clear h hw1
 go_enter Tryd.func91, Tryd.ntmps91
 go_upto_region 1 with (fail)
 generalize w.alloc zO = w1 at *
 have c0 := HA1.out.blk.cell 0; have c1 := HA1.out.blk.cell 1
 simp only [List.getElem?_toArray, List.getElem?_cons_zero, List.getElem?_cons_succ] at c0 c1
 obtain ⟨a, rfl, hab, q0⟩ := kat HA1.out.rd h0
 have hkl : k < ts.length := (List.getElem?_eq_some_iff.1 h0).1
 go_quiet (fail)
 have HA1d := LH (HA1.out.belowW (below_drewN (Below.refl _ _) nq))
 have HZ1d := LH (HZ1.out.drewN nq)
 have HB1d := LH (HB1.out.trans (PB.of (below_drewN (Below.refl _ _) nq) (Nat.le_of_lt HA1.out.lt)))
 clear c0 c1 q0
 generalize w1.drewN nq = w2 at *
 clear HA1 HZ1 HB1
 go_wp2_with fail
 refine (ptakes_at 8 HA1d.out h0 hl).mono ?_
 rintro e w4 ⟨rfl, hbt, hpt⟩
 rw [HK8.out] at hpt ⊢
 simp only [Bool.false_eq_true, if_false, if_true] at hpt
 have HP4 := LH hpt; have HB4 := LH (HB1d.out.trans hbt); have HZ4 := LH (HZ1d.out.zpb hbt HLT.out)
 clear hbt hpt
 go_wp2_with fail
 refine (hL A0 n0 v0 HD0.out hlen w4 (k + 1) f _ HDL.out ⟨_, _, rfl, .inr hc9⟩ HP4.out).mono ?_
 rintro e w5 ⟨hb5, hp5, ⟨ska, skn, skc⟩, ⟨soa, son, soc⟩, nl, rfl, hk5, ho5, hn5⟩
 have HB5 := LH (HB4.out.trans hb5); have HP5 := LH hp5; have HZ5 := LH (HZ4.out.zpb hb5 HLT.out)
 have HW4 := LH (show w.heap.size < w4.heap.size from HZ4.out.lt)
 have HW5 := LH (show w4.heap.size ≤ w5.heap.size from hb5.size)
 have c1 := hp5.blk.cell 1; have lp := hp5.lt; have fp1 := hp5.blk.frozen 1
 simp only [List.getElem?_toArray, List.getElem?_cons_zero, List.getElem?_cons_succ] at c1
 have HPS := LH (PB.set_ (pb := pb) (w := w5) 1 (.int .i64 ((k + 1 + A0.length + 1 : Nat) : Int)))
 have HF4 := LH (fun (b : Nat) (h : rng w4.heap.size w5.heap.size b) => (show b ≠ pb from by have h1 := h.1; have h2 := HW4.out; have h3 := HLT.out; omega))
 have HK6 := LH (hk5.keep fun p hp hlt => HPS.out.cell p hlt (HF4.out _ hp)); have HO6 := LH (ho5.keep fun p hp hlt => HPS.out.cell p hlt (HF4.out _ hp)); have HN6 := LH (hn5.pb HPS.out HF4.out)
 have HB6 := LH (HB5.out.trans HPS.out); have HP6 := LH (HP5.out.to (k + 1 + A0.length + 1)); have HZ6 := LH (HZ5.out.zpb HPS.out HLT.out)
 have HS6 := LH (show (w5.setCell ⟨pb, 1, none⟩ (.int .i64 ((k + 1 + A0.length + 1 : Nat) : Int))).heap.size = w5.heap.size from set_size _ _ _)
 have hkx : (k + 1 + A0.length : Nat) < ts.length := (List.getElem?_eq_some_iff.1 HCT.out).1
 have hcs : (((k + 1 + A0.length + 1 : Nat)) : Int) = ((k + 1 + A0.length : Nat) : Int) + 1 := by omega
 rw [hcs] at HPS HK6 HO6 HN6 HB6 HP6 HZ6 HS6
 generalize hkk : (k + 1 + A0.length : Nat) = kk at *
 have HKK := LH hkk
 clear hb5 hp5 hk5 ho5 hn5 hcs hkk
 go_upto_region 12 with (fail)
 clear c1 lp fp1
 generalize w5.setCell ⟨pb, 1, none⟩ (.int .i64 ((kk : Int) + 1)) = w6 at *
 go_wp2_with fail
 refine (pkind_at HP6.out HPT.out hl).mono ?_
 rintro e w7 ⟨rfl, hb7, hs7⟩
 have HK7 := LH (HK6.out.belowW hb7); have HO7 := LH (HO6.out.belowW hb7); have HN7 := LH (HN6.out.belowW hb7)
 have HB7 := LH (HB6.out.trans (PB.of hb7 (Nat.le_of_lt HP6.out.lt))); have HP7 := LH (HP6.out.belowW hb7); have HZ7 := LH (HZ6.out.belowW hb7)
 have HS7 := LH (hs7.trans HS6.out)
 clear hb7 hs7 HK6 HO6 HN6
 have HS7L := LH (show w5.heap.size ≤ w7.heap.size from Nat.le_of_eq HS7.out.symm)
 go_wp2_with fail
 refine (ptree_any w7 (rng w4.heap.size w5.heap.size) ⟨ska, skn, skc⟩ ⟨soa, son, soc⟩ nl (v0 f) HK7.out HO7.out HN7.out (fun b h => Nat.lt_of_lt_of_le h.2 HS7L.out)).mono ?_
 rintro e wt ⟨hbt, x, rfl, hx⟩
 obtain ⟨kd, fl, tx, xn, ⟨l1, l2, l3⟩, ⟨r1, r2, r3⟩, ⟨oa, on, oc⟩, ⟨ka, kn, kc⟩⟩ := x
 unfold NV.val
 simp only []
 have HBt := LH (HB7.out.trans (PB.of hbt (Nat.le_of_lt HP7.out.lt))); have HPt := LH (HP7.out.belowW hbt); have HZt := LH (HZ7.out.belowW hbt); have HXt := LH hx
 have HFB := LH (fun (b : Nat) (h : rng w4.heap.size w5.heap.size b) => (show w.heap.size < b ∧ b < wt.heap.size from ⟨Nat.lt_of_lt_of_le HW4.out h.1, Nat.lt_of_lt_of_le h.2 (Nat.le_trans HS7L.out hbt.size)⟩))
 clear hbt hx
 have hzz := HZt.out
 obtain ⟨z0, z1, z2, z3, z4, z5, z6, z7, z8, z9, z10, z11, fz0, fz1, fz2, fz3, fz4, fz5, fz6, fz7, fz8, fz9, fz10, fz11, lz⟩ := blk12 hzz
 clear hzz
 go_wp2
 refine bodyPost_ret (v := NV.val ⟨kd, fl, tx, xn, ⟨l1, l2, l3⟩, ⟨r1, r2, r3⟩, ⟨oa, on, oc⟩, ⟨ka, kn, kc⟩⟩) ?_ rfl ?_
 ·simp [results, Tryd.results91, go_sem, NV.val, bd0, str, lz, fz0, fz1, fz2, fz3, fz4, fz5, fz6, fz7, fz8, fz9, fz10, fz11, z0, z1, z2, z3, z4, z5, z6, z7, z8, z9, z10, z11]
 ·exact PtRet.tree HLT.out HBt.out HPt.out (by have := HKK.out; (try simp only [List.length_cons, List.length_append, List.length_nil]); omega) rfl HXt.out HFB.out
theorem patom_groupL (w : World) (pb : Nat) (PA : Option Addr) (cap : Nat) (ts : List Lt) (k : Nat) (f : List UInt8) (h : PsAt w pb PA cap ts k) (hok : TkOk ts) (M : Nat) (hL : LsOk pb PA cap ts M) (o c l : Lt) (A0 : List Lt) (n0 : Nat) (v0 : Vl) (post : List Lt) (hD : D .list A0 n0 v0) (hlen : A0.length < M) (ho8 : o.kind = 8) (hc9 : c.kind = 9) (hl21 : l.kind = 21) (hd : ts.drop k = (o :: (A0 ++ [c, l])) ++ post) (hp : Hd post [14, 20, 21]) :
  Calls Tryd.prog 91 #[.pointer (some ⟨pb, 0, none⟩), .string (str f)] w (PtRet pb PA cap ts (k + (o :: (A0 ++ [c, l])).length) [(0, lstN l.n (v0 f))] w) := by
 have h0 : ts[k]? = some o := tk_at (j := 0) hd rfl
 have e8n : ((o.kind : Int) != 8) = false := by rw [ho8]; rfl
 have HK8 := LH (show decide (o.kind = 8) = true from decide_eq_true ho8)
 have hdr : ts.drop (k + 1) = A0 ++ (c :: (l :: post)) := by
  have h1 := dropk (X := [o]) (Y := A0 ++ (c :: (l :: post))) (ts := ts) (k := k) (by rw [hd]; simp)
  exact h1
 have HDL := LH hdr
 have hdc : ts.drop (k + 1 + A0.length) = c :: (l :: post) := dropk hdr
 have HCT := LH (show ts[k + 1 + A0.length]? = some c from by have := tk_at (A := [c]) (j := 0) hdc rfl; simpa using this)
 have HD0 := LH hD
 have HPT := LH (show ts[k + 1 + A0.length + 1]? = some l from tk_at (A := [c, l]) (j := 1) hdc rfl)
 obtain ⟨lk, lx, ln, la, le⟩ := l
 simp only [] at hl21
 have e21 : ((lk : Int) == 21) = true := by rw [hl21]; rfl
 have hfd := fun (W : World) => field_lex2 lk (str lx) ln la le W
 clear hl21
 clear hd hdr hdc ho8 hD
 have HLT := LH h.lt
 have hl : ts.length ≤ 920000000000 := by have := hok.1; omega
 have HA1 := LH (h.alloc zO)
 have HZ1 := LH (Blk.new w 27 zA)
 have HB1 := LH (PB.of (pb := pb) ((Below.refl w.heap.size w).alloc (Nat.le_refl _) zO) (Nat.le_of_lt h.lt))
 have hw1 : (w.alloc zO).heap.size = w.heap.size + 1 := World.size_alloc _ _
 have HW1 := LH hw1
 clear h hw1
 go_enter Tryd.func91, Tryd.ntmps91
 go_upto_region 1 with (fail)
 generalize w.alloc zO = w1 at *
 have c0 := HA1.out.blk.cell 0; have c1 := HA1.out.blk.cell 1
 simp only [List.getElem?_toArray, List.getElem?_cons_zero, List.getElem?_cons_succ] at c0 c1
 obtain ⟨a, rfl, hab, q0⟩ := kat HA1.out.rd h0
 have hkl : k < ts.length := (List.getElem?_eq_some_iff.1 h0).1
 go_quiet (fail)
 have HA1d := LH (HA1.out.belowW (below_drewN (Below.refl _ _) nq))
 have HZ1d := LH (HZ1.out.drewN nq)
 have HB1d := LH (HB1.out.trans (PB.of (below_drewN (Below.refl _ _) nq) (Nat.le_of_lt HA1.out.lt)))
 clear c0 c1 q0
 generalize w1.drewN nq = w2 at *
 clear HA1 HZ1 HB1
 go_wp2_with fail
 refine (ptakes_at 8 HA1d.out h0 hl).mono ?_
 rintro e w4 ⟨rfl, hbt, hpt⟩
 rw [HK8.out] at hpt ⊢
 simp only [Bool.false_eq_true, if_false, if_true] at hpt
 have HP4 := LH hpt; have HB4 := LH (HB1d.out.trans hbt); have HZ4 := LH (HZ1d.out.zpb hbt HLT.out)
 clear hbt hpt
 go_wp2_with fail
 refine (hL A0 n0 v0 HD0.out hlen w4 (k + 1) f _ HDL.out ⟨_, _, rfl, .inr hc9⟩ HP4.out).mono ?_
 rintro e w5 ⟨hb5, hp5, ⟨ska, skn, skc⟩, ⟨soa, son, soc⟩, nl, rfl, hk5, ho5, hn5⟩
 have HB5 := LH (HB4.out.trans hb5); have HP5 := LH hp5; have HZ5 := LH (HZ4.out.zpb hb5 HLT.out)
 have HW4 := LH (show w.heap.size < w4.heap.size from HZ4.out.lt)
 have HW5 := LH (show w4.heap.size ≤ w5.heap.size from hb5.size)
 have c1 := hp5.blk.cell 1; have lp := hp5.lt; have fp1 := hp5.blk.frozen 1
 simp only [List.getElem?_toArray, List.getElem?_cons_zero, List.getElem?_cons_succ] at c1
 have HPS := LH (PB.set_ (pb := pb) (w := w5) 1 (.int .i64 ((k + 1 + A0.length + 1 : Nat) : Int)))
 have HF4 := LH (fun (b : Nat) (h : rng w4.heap.size w5.heap.size b) => (show b ≠ pb from by have h1 := h.1; have h2 := HW4.out; have h3 := HLT.out; omega))
 have HK6 := LH (hk5.keep fun p hp hlt => HPS.out.cell p hlt (HF4.out _ hp)); have HO6 := LH (ho5.keep fun p hp hlt => HPS.out.cell p hlt (HF4.out _ hp)); have HN6 := LH (hn5.pb HPS.out HF4.out)
 have HB6 := LH (HB5.out.trans HPS.out); have HP6 := LH (HP5.out.to (k + 1 + A0.length + 1)); have HZ6 := LH (HZ5.out.zpb HPS.out HLT.out)
 have HS6 := LH (show (w5.setCell ⟨pb, 1, none⟩ (.int .i64 ((k + 1 + A0.length + 1 : Nat) : Int))).heap.size = w5.heap.size from set_size _ _ _)
 have hkx : (k + 1 + A0.length : Nat) < ts.length := (List.getElem?_eq_some_iff.1 HCT.out).1
 have hcs : (((k + 1 + A0.length + 1 : Nat)) : Int) = ((k + 1 + A0.length : Nat) : Int) + 1 := by omega
 rw [hcs] at HPS HK6 HO6 HN6 HB6 HP6 HZ6 HS6
 generalize hkk : (k + 1 + A0.length : Nat) = kk at *
 have HKK := LH hkk
 clear hb5 hp5 hk5 ho5 hn5 hcs hkk
 go_upto_region 12 with (fail)
 clear c1 lp fp1
 generalize w5.setCell ⟨pb, 1, none⟩ (.int .i64 ((kk : Int) + 1)) = w6 at *
 go_wp2_with fail
 refine (pkind_at HP6.out HPT.out hl).mono ?_
 rintro e w7 ⟨rfl, hb7, hs7⟩
 have HK7 := LH (HK6.out.belowW hb7); have HO7 := LH (HO6.out.belowW hb7); have HN7 := LH (HN6.out.belowW hb7)
 have HB7 := LH (HB6.out.trans (PB.of hb7 (Nat.le_of_lt HP6.out.lt))); have HP7 := LH (HP6.out.belowW hb7); have HZ7 := LH (HZ6.out.belowW hb7)
 have HS7 := LH (hs7.trans HS6.out)
 clear hb7 hs7 HK6 HO6 HN6
 go_wp2_with fail
 refine (pnext_at HP7.out HPT.out hl).mono ?_
 rintro e w8 ⟨rfl, hb8, hp8⟩
 unfold ltVal
 simp only []
 have HF5 := LH (fun (b : Nat) (h : rng w4.heap.size w5.heap.size b) => HF4.out b h)
 have HK8 := LH (HK7.out.keep fun p hp hlt => hb8.cell p hlt (HF4.out _ hp)); have HO8 := LH (HO7.out.keep fun p hp hlt => hb8.cell p hlt (HF4.out _ hp)); have HN8 := LH (HN7.out.pb hb8 HF4.out)
 have HB8 := LH (HB7.out.trans hb8); have HP8 := LH hp8; have HZ8 := LH (HZ7.out.zpb hb8 HLT.out)
 have HS8L := LH (show w5.heap.size ≤ w8.heap.size from by have h1 := HS7.out; have h2 := hb8.size; omega)
 clear hb8 hp8
 by_cases hn0 : 0 < ln
 ·have e0 : decide (0 < ln) = true := by simpa using hn0
  have HVT := LH (show lstN ln (v0 f) = ndList ln (v0 f) from if_pos hn0)
  clear hn0
  have hzz := HZ8.out
  obtain ⟨z0, z1, z2, z3, z4, z5, z6, z7, z8, z9, z10, z11, fz0, fz1, fz2, fz3, fz4, fz5, fz6, fz7, fz8, fz9, fz10, fz11, lz⟩ := blk12 hzz
  clear hzz
  go_wp2
  refine bodyPost_ret (v := NV.val ⟨9, [], [], ln, bd0, bd0, ⟨soa, son, soc⟩, ⟨ska, skn, skc⟩⟩) ?_ rfl ?_
  ·simp [results, Tryd.results91, go_sem, NV.val, bd0, str, lz, fz0, fz1, fz2, fz3, fz4, fz5, fz6, fz7, fz8, fz9, fz10, fz11, z0, z1, z2, z3, z4, z5, z6, z7, z8, z9, z10, z11]
  ·have HFB := LH (fun (b : Nat) (h : rng w4.heap.size w5.heap.size b) => (show w.heap.size < b ∧ b < w8.heap.size from ⟨Nat.lt_of_lt_of_le HW4.out h.1, Nat.lt_of_lt_of_le h.2 HS8L.out⟩))
   exact PtRet.tree HLT.out HB8.out HP8.out (by have := HKK.out; (try simp only [List.length_cons, List.length_append, List.length_nil]); omega) (by show [((0 : Int), lstN ln (v0 f))] = _; rw [HVT.out]; rfl) (NdR.mk HO8.out HK8.out HN8.out.1 HN8.out.2) HFB.out
 ·have e0 : decide (0 < ln) = false := by simpa using hn0
  have HVT := LH (show lstN ln (v0 f) = treeN (v0 f) from if_neg hn0)
  clear hn0
  go_wp2_with fail
  refine (ptree_any w8 (rng w4.heap.size w5.heap.size) ⟨ska, skn, skc⟩ ⟨soa, son, soc⟩ nl (v0 f) HK8.out HO8.out HN8.out (fun b h => Nat.lt_of_lt_of_le h.2 HS8L.out)).mono ?_
  rintro e wt ⟨hbt, x, rfl, hx⟩
  obtain ⟨kd, fl, tx, xn, ⟨l1, l2, l3⟩, ⟨r1, r2, r3⟩, ⟨oa, on, oc⟩, ⟨ka, kn, kc⟩⟩ := x
  unfold NV.val
  simp only []
  have HBt := LH (HB8.out.trans (PB.of hbt (Nat.le_of_lt HP8.out.lt))); have HPt := LH (HP8.out.belowW hbt); have HZt := LH (HZ8.out.belowW hbt); have HXt := LH hx
  have HFB := LH (fun (b : Nat) (h : rng w4.heap.size w5.heap.size b) => (show w.heap.size < b ∧ b < wt.heap.size from ⟨Nat.lt_of_lt_of_le HW4.out h.1, Nat.lt_of_lt_of_le h.2 (Nat.le_trans HS8L.out hbt.size)⟩))
  clear hbt hx
  have hzz := HZt.out
  obtain ⟨z0, z1, z2, z3, z4, z5, z6, z7, z8, z9, z10, z11, fz0, fz1, fz2, fz3, fz4, fz5, fz6, fz7, fz8, fz9, fz10, fz11, lz⟩ := blk12 hzz
  clear hzz
  go_wp2
  refine bodyPost_ret (v := NV.val ⟨kd, fl, tx, xn, ⟨l1, l2, l3⟩, ⟨r1, r2, r3⟩, ⟨oa, on, oc⟩, ⟨ka, kn, kc⟩⟩) ?_ rfl ?_
  ·simp [results, Tryd.results91, go_sem, NV.val, bd0, str, lz, fz0, fz1, fz2, fz3, fz4, fz5, fz6, fz7, fz8, fz9, fz10, fz11, z0, z1, z2, z3, z4, z5, z6, z7, z8, z9, z10, z11]
  ·exact PtRet.tree HLT.out HBt.out HPt.out (by have := HKK.out; (try simp only [List.length_cons, List.length_append, List.length_nil]); omega) (by show [((0 : Int), lstN ln (v0 f))] = _; rw [HVT.out]) HXt.out HFB.out
theorem patom_fleaf (w : World) (pb : Nat) (PA : Option Addr) (cap : Nat) (ts : List Lt) (k : Nat) (f : List UInt8) (h : PsAt w pb PA cap ts k) (hok : TkOk ts) (w_ c_ : Lt) (A : List Lt) (n : Nat) (v : Vl) (post : List Lt) (hD : D .leaf A n v) (hw1 : w_.kind = 1) (hc14 : c_.kind = 14) (hd0 : ts.drop k = (w_ :: c_ :: A) ++ post) (hp : Hd post [14, 20, 21]) :
  Calls Tryd.prog 91 #[.pointer (some ⟨pb, 0, none⟩), .string (str f)] w (PtRet pb PA cap ts (k + (w_ :: c_ :: A).length) (v w_.text) w) := by
 obtain ⟨wk, wx, wn, wa, we⟩ := w_
 simp only [] at hw1
 have h0 : ts[k]? = some ⟨wk, wx, wn, wa, we⟩ := tk_at (j := 0) hd0 rfl
 have h1 : ts[k + 1]? = some c_ := tk_at (j := 1) hd0 rfl
 have e8n : ((wk : Int) != 8) = true := by rw [hw1]; rfl
 have e14 : ((c_.kind : Int) == 14) = true := by rw [hc14]; rfl
 have e2 : ((wk : Int) == 2) = false := by rw [hw1]; rfl
 have hd := dropk (X := [⟨wk, wx, wn, wa, we⟩, c_]) (Y := A ++ post) hd0
 have HLW := LH h.rd.open_
 clear hw1 hc14 hd0
 obtain ⟨t, r, hA, ht8, hr14⟩ := leaf_hd hD
 have h2 : ts[k + 2]? = some t := tk_at (j := 0) hd (by rw [hA]; rfl)
 have HD0 := LH hD; have HDD := LH hd; have HPP := LH hp
 have HK8 := LH (show decide (t.kind = 8) = false from decide_eq_false ht8)
 clear hD hd hp hA ht8 hr14
 have HLT := LH h.lt
 have hl : ts.length ≤ 920000000000 := by have := hok.1; omega
 have HA1 := LH (h.alloc zO)
 have HZ1 := LH (Blk.new w 27 zA)
 have HB1 := LH (PB.of (pb := pb) ((Below.refl w.heap.size w).alloc (Nat.le_refl _) zO) (Nat.le_of_lt h.lt))
 have hw1 : (w.alloc zO).heap.size = w.heap.size + 1 := World.size_alloc _ _
 have HW1 := LH hw1
 clear h hw1
 go_enter Tryd.func91, Tryd.ntmps91
 go_upto_region 1 with (fail)
 generalize w.alloc zO = w1 at *
 have c0 := HA1.out.blk.cell 0; have c1 := HA1.out.blk.cell 1
 simp only [List.getElem?_toArray, List.getElem?_cons_zero, List.getElem?_cons_succ] at c0 c1
 obtain ⟨a, rfl, hab, q0⟩ := kat HA1.out.rd h0
 have hkl : k < ts.length := (List.getElem?_eq_some_iff.1 h0).1
 obtain ⟨a', ha', hab', q1⟩ := kat HA1.out.rd h1
 cases ha'
 have hkl1 : k + 1 < ts.length := (List.getElem?_eq_some_iff.1 h1).1
 have hwk : IntKind.i64.wrap ((k : Int) + 1) = (k : Int) + 1 := IntWalk.i64_in _ (by omega)
 have hk0 : 0 ≤ (k : Int) + 1 := by omega
 have hkt : ((k : Int) + 1).toNat = k + 1 := by omega
 have hklt : (k : Int) + 1 < (ts.length : Int) := by omega
 clear hab' 
 go_quiet (fail)
 have HA1d := LH (HA1.out.belowW (below_drewN (Below.refl _ _) nq))
 have HZ1d := LH (HZ1.out.drewN nq)
 have HB1d := LH (HB1.out.trans (PB.of (below_drewN (Below.refl _ _) nq) (Nat.le_of_lt HA1.out.lt)))
 clear c0 c1 q0 q1 hkt hk0 hklt
 generalize w1.drewN nq = w2 at *
 clear HA1 HZ1 HB1
 go_wp2_with fail
 refine (pnext_at HA1d.out h0 hl).mono ?_
 rintro e wb ⟨rfl, hbn, hpn⟩
 unfold ltVal
 simp only []
 have HBb := LH ((HB1d.out.trans hbn).alloc (Nat.le_of_lt HLT.out) (.cells #[.int .i64 wk, .string (str wx), .int .i64 wn, .int .i64 wa, .int .i64 we] 74))
 have HZb := LH ((HZ1d.out.zpb hbn HLT.out).alloc (.cells #[.int .i64 wk, .string (str wx), .int .i64 wn, .int .i64 wa, .int .i64 we] 74))
 have HPb := LH (hpn.alloc (.cells #[.int .i64 wk, .string (str wx), .int .i64 wn, .int .i64 wa, .int .i64 we] 74))
 have HTb := LH (Blk.new wb 74 #[.int .i64 wk, .string (str wx), .int .i64 wn, .int .i64 wa, .int .i64 we])
 have HNb := LH (show wb.heap.size ≠ pb from by have := hpn.lt; omega)
 clear hbn hpn
 go_upto_region 3 with (fail)
 generalize wb.alloc (.cells #[.int .i64 wk, .string (str wx), .int .i64 wn, .int .i64 wa, .int .i64 we] 74) = wc at *
 have c1 := HPb.out.blk.cell 1; have lp := HPb.out.lt; have fp1 := HPb.out.blk.frozen 1
 simp only [List.getElem?_toArray, List.getElem?_cons_zero, List.getElem?_cons_succ] at c1
 have hcs : ((k + 2 : Nat) : Int) = ((k + 1 : Nat) : Int) + 1 := by omega
 have HPc := LH (show PsAt (wc.setCell ⟨pb, 1, none⟩ (.int .i64 (((k + 1 : Nat) : Int) + 1))) pb (some a) cap ts (k + 2) from by rw [← hcs]; exact HPb.out.to (k + 2))
 have HPS := LH (PB.set_ (pb := pb) (w := wc) 1 (.int .i64 (((k + 1 : Nat) : Int) + 1)))
 have HBc := LH (HBb.out.trans HPS.out)
 have HZc := LH (HZb.out.zpb HPS.out HLT.out)
 have HTc := LH (HTb.out.pb HPS.out HNb.out)
 clear hcs
 generalize hkk1 : (k + 1 : Nat) = kk1 at *
 have HKK1 := LH hkk1
 clear hkk1
 go_upto_region 4 with (fail)
 clear c1 lp fp1
 generalize wc.setCell ⟨pb, 1, none⟩ (.int .i64 ((kk1 : Int) + 1)) = wd at *
 have t0 := HTc.out.cell 0; have t1 := HTc.out.cell 1
 simp only [List.getElem?_toArray, List.getElem?_cons_zero, List.getElem?_cons_succ] at t0 t1
 go_wp2_with fail
 refine (ptakes_at 8 HPc.out h2 hl).mono ?_
 rintro e w4 ⟨rfl, hbt, hpt⟩
 rw [HK8.out] at hpt ⊢
 simp only [Bool.false_eq_true, if_false, if_true] at hpt
 have HP4 := LH hpt; have HB4 := LH (HBc.out.trans hbt); have HZ4 := LH (HZc.out.zpb hbt HLT.out)
 clear hbt hpt
 go_wp2_with fail
 refine (pleaf_any HD0.out hok w4 (k + 2) wx post HDD.out HPP.out HP4.out).mono ?_
 rintro e w5 ⟨hb5, hp5, x, t5, rfl, hv, hx⟩
 obtain ⟨kd, fl, tx, xn, ⟨l1, l2, l3⟩, ⟨r1, r2, r3⟩, ⟨oa, on, oc⟩, ⟨ka, kn, kc⟩⟩ := x
 unfold NV.val
 simp only []
 have HB5 := LH (HB4.out.trans hb5); have HP5 := LH hp5; have HZ5 := LH (HZ4.out.zpb hb5 HLT.out)
 have HX5 := LH hx; have HV5 := LH hv
 have HFB := LH (fun (b : Nat) (h : rng w4.heap.size w5.heap.size b) => (show w.heap.size < b ∧ b < w5.heap.size from ⟨Nat.lt_of_lt_of_le HZ4.out.lt h.1, h.2⟩))
 clear hb5 hp5 hx hv
 have hzz := HZ5.out
 obtain ⟨z0, z1, z2, z3, z4, z5, z6, z7, z8, z9, z10, z11, fz0, fz1, fz2, fz3, fz4, fz5, fz6, fz7, fz8, fz9, fz10, fz11, lz⟩ := blk12 hzz
 clear hzz
 go_wp2
 refine bodyPost_ret (v := NV.val ⟨kd, fl, tx, xn, ⟨l1, l2, l3⟩, ⟨r1, r2, r3⟩, ⟨oa, on, oc⟩, ⟨ka, kn, kc⟩⟩) ?_ rfl ?_
 ·simp [results, Tryd.results91, go_sem, NV.val, bd0, str, lz, fz0, fz1, fz2, fz3, fz4, fz5, fz6, fz7, fz8, fz9, fz10, fz11, z0, z1, z2, z3, z4, z5, z6, z7, z8, z9, z10, z11]
 ·exact PtRet.tree HLT.out HB5.out HP5.out (by (try simp only [List.length_cons]); omega) HV5.out HX5.out HFB.out
theorem patom_fgroup (w : World) (pb : Nat) (PA : Option Addr) (cap : Nat) (ts : List Lt) (k : Nat) (f : List UInt8) (h : PsAt w pb PA cap ts k) (hok : TkOk ts) (M : Nat) (hL : LsOk pb PA cap ts M) (w_ c_ : Lt) (hw1 : w_.kind = 1) (hc14 : c_.kind = 14) (o c : Lt) (A0 : List Lt) (n0 : Nat) (v0 : Vl) (post : List Lt) (hD : D .list A0 n0 v0) (hlen : A0.length < M) (ho8 : o.kind = 8) (hc9 : c.kind = 9) (hd0 : ts.drop k = (w_ :: c_ :: (o :: (A0 ++ [c]))) ++ post) (hp : Hd post [14, 20, 21]) :
  Calls Tryd.prog 91 #[.pointer (some ⟨pb, 0, none⟩), .string (str f)] w (PtRet pb PA cap ts (k + (w_ :: c_ :: (o :: (A0 ++ [c]))).length) [(0, treeN (v0 w_.text))] w) := by
 obtain ⟨wk, wx, wn, wa, we⟩ := w_
 simp only [] at hw1
 have h0 : ts[k]? = some ⟨wk, wx, wn, wa, we⟩ := tk_at (j := 0) hd0 rfl
 have h1 : ts[k + 1]? = some c_ := tk_at (j := 1) hd0 rfl
 have e8n : ((wk : Int) != 8) = true := by rw [hw1]; rfl
 have e14 : ((c_.kind : Int) == 14) = true := by rw [hc14]; rfl
 have e2 : ((wk : Int) == 2) = false := by rw [hw1]; rfl
 have hd := dropk (X := [⟨wk, wx, wn, wa, we⟩, c_]) (Y := (o :: (A0 ++ [c])) ++ post) hd0
 have HLW := LH h.rd.open_
 clear hw1 hc14 hd0
 have h2 : ts[k + 2]? = some o := tk_at (j := 0) hd rfl
 have HK8 := LH (show decide (o.kind = 8) = true from decide_eq_true ho8)
 have hdr : ts.drop (k + 2 + 1) = A0 ++ (c :: (post)) := by
  have h1 := dropk (X := [o]) (Y := A0 ++ (c :: (post))) (ts := ts) (k := k + 2) (by rw [show k + 2 = k + [(⟨wk, wx, wn, wa, we⟩ : Lt), c_].length from rfl, hd]; simp)
  exact h1
 have HDL := LH hdr
 have hdc : ts.drop (k + 2 + 1 + A0.length) = c :: (post) := dropk hdr
 have HCT := LH (show ts[k + 2 + 1 + A0.length]? = some c from by have := tk_at (A := [c]) (j := 0) hdc rfl; simpa using this)
 have HD0 := LH hD
 obtain ⟨p, pr, hpp, hpk⟩ := hp
 have HPT := LH (show ts[k + 2 + 1 + A0.length + 1]? = some p from tk_at (A := [c]) (j := 1) hdc (by rw [hpp]; rfl))
 have e21 : ((p.kind : Int) == 21) = false := by simpa using fun h : p.kind = 21 => hpk (by rw [h]; decide)
 clear hpk
 clear hd hdr hdc ho8 hD
 have HLT := LH h.lt
 have hl : ts.length ≤ 920000000000 := by have := hok.1; omega
 have HA1 := LH (h.alloc zO)
 have HZ1 := LH (Blk.new w 27 zA)
 have HB1 := LH (PB.of (pb := pb) ((Below.refl w.heap.size w).alloc (Nat.le_refl _) zO) (Nat.le_of_lt h.lt))
 have hw1 : (w.alloc zO).heap.size = w.heap.size + 1 := World.size_alloc _ _
 have HW1 := LH hw1
 clear h hw1
 go_enter Tryd.func91, Tryd.ntmps91
 go_upto_region 1 with (fail)
 generalize w.alloc zO = w1 at *
 have c0 := HA1.out.blk.cell 0; have c1 := HA1.out.blk.cell 1
 simp only [List.getElem?_toArray, List.getElem?_cons_zero, List.getElem?_cons_succ] at c0 c1
 obtain ⟨a, rfl, hab, q0⟩ := kat HA1.out.rd h0
 have hkl : k < ts.length := (List.getElem?_eq_some_iff.1 h0).1
 obtain ⟨a', ha', hab', q1⟩ := kat HA1.out.rd h1
 cases ha'
 have hkl1 : k + 1 < ts.length := (List.getElem?_eq_some_iff.1 h1).1
 have hwk : IntKind.i64.wrap ((k : Int) + 1) = (k : Int) + 1 := IntWalk.i64_in _ (by omega)
 have hk0 : 0 ≤ (k : Int) + 1 := by omega
 have hkt : ((k : Int) + 1).toNat = k + 1 := by omega
 have hklt : (k : Int) + 1 < (ts.length : Int) := by omega
 clear hab' 
 go_quiet (fail)
 have HA1d := LH (HA1.out.belowW (below_drewN (Below.refl _ _) nq))
 have HZ1d := LH (HZ1.out.drewN nq)
 have HB1d := LH (HB1.out.trans (PB.of (below_drewN (Below.refl _ _) nq) (Nat.le_of_lt HA1.out.lt)))
 clear c0 c1 q0 q1 hkt hk0 hklt
 generalize w1.drewN nq = w2 at *
 clear HA1 HZ1 HB1
 go_wp2_with fail
 refine (pnext_at HA1d.out h0 hl).mono ?_
 rintro e wb ⟨rfl, hbn, hpn⟩
 unfold ltVal
 simp only []
 have HBb := LH ((HB1d.out.trans hbn).alloc (Nat.le_of_lt HLT.out) (.cells #[.int .i64 wk, .string (str wx), .int .i64 wn, .int .i64 wa, .int .i64 we] 74))
 have HZb := LH ((HZ1d.out.zpb hbn HLT.out).alloc (.cells #[.int .i64 wk, .string (str wx), .int .i64 wn, .int .i64 wa, .int .i64 we] 74))
 have HPb := LH (hpn.alloc (.cells #[.int .i64 wk, .string (str wx), .int .i64 wn, .int .i64 wa, .int .i64 we] 74))
 have HTb := LH (Blk.new wb 74 #[.int .i64 wk, .string (str wx), .int .i64 wn, .int .i64 wa, .int .i64 we])
 have HNb := LH (show wb.heap.size ≠ pb from by have := hpn.lt; omega)
 clear hbn hpn
 go_upto_region 3 with (fail)
 generalize wb.alloc (.cells #[.int .i64 wk, .string (str wx), .int .i64 wn, .int .i64 wa, .int .i64 we] 74) = wc at *
 have c1 := HPb.out.blk.cell 1; have lp := HPb.out.lt; have fp1 := HPb.out.blk.frozen 1
 simp only [List.getElem?_toArray, List.getElem?_cons_zero, List.getElem?_cons_succ] at c1
 have hcs : ((k + 2 : Nat) : Int) = ((k + 1 : Nat) : Int) + 1 := by omega
 have HPc := LH (show PsAt (wc.setCell ⟨pb, 1, none⟩ (.int .i64 (((k + 1 : Nat) : Int) + 1))) pb (some a) cap ts (k + 2) from by rw [← hcs]; exact HPb.out.to (k + 2))
 have HPS := LH (PB.set_ (pb := pb) (w := wc) 1 (.int .i64 (((k + 1 : Nat) : Int) + 1)))
 have HBc := LH (HBb.out.trans HPS.out)
 have HZc := LH (HZb.out.zpb HPS.out HLT.out)
 have HTc := LH (HTb.out.pb HPS.out HNb.out)
 clear hcs
 generalize hkk1 : (k + 1 : Nat) = kk1 at *
 have HKK1 := LH hkk1
 clear hkk1
 go_upto_region 4 with (fail)
 clear c1 lp fp1
 generalize wc.setCell ⟨pb, 1, none⟩ (.int .i64 ((kk1 : Int) + 1)) = wd at *
 have t0 := HTc.out.cell 0; have t1 := HTc.out.cell 1
 simp only [List.getElem?_toArray, List.getElem?_cons_zero, List.getElem?_cons_succ] at t0 t1
 go_wp2_with fail
 refine (ptakes_at 8 HPc.out h2 hl).mono ?_
 rintro e w4 ⟨rfl, hbt, hpt⟩
 rw [HK8.out] at hpt ⊢
 simp only [Bool.false_eq_true, if_false, if_true] at hpt
 have HP4 := LH hpt; have HB4 := LH (HBc.out.trans hbt); have HZ4 := LH (HZc.out.zpb hbt HLT.out)
 clear hbt hpt
 go_wp2_with fail
 refine (hL A0 n0 v0 HD0.out hlen w4 (k + 2 + 1) wx _ HDL.out ⟨_, _, rfl, .inr hc9⟩ HP4.out).mono ?_
 rintro e w5 ⟨hb5, hp5, ⟨ska, skn, skc⟩, ⟨soa, son, soc⟩, nl, rfl, hk5, ho5, hn5⟩
 have HB5 := LH (HB4.out.trans hb5); have HP5 := LH hp5; have HZ5 := LH (HZ4.out.zpb hb5 HLT.out)
 have HW4 := LH (show w.heap.size < w4.heap.size from HZ4.out.lt)
 have HW5 := LH (show w4.heap.size ≤ w5.heap.size from hb5.size)
 have c1 := hp5.blk.cell 1; have lp := hp5.lt; have fp1 := hp5.blk.frozen 1
 simp only [List.getElem?_toArray, List.getElem?_cons_zero, List.getElem?_cons_succ] at c1
 have HPS := LH (PB.set_ (pb := pb) (w := w5) 1 (.int .i64 ((k + 2 + 1 + A0.length + 1 : Nat) : Int)))
 have HF4 := LH (fun (b : Nat) (h : rng w4.heap.size w5.heap.size b) => (show b ≠ pb from by have h1 := h.1; have h2 := HW4.out; have h3 := HLT.out; omega))
 have HK6 := LH (hk5.keep fun p hp hlt => HPS.out.cell p hlt (HF4.out _ hp)); have HO6 := LH (ho5.keep fun p hp hlt => HPS.out.cell p hlt (HF4.out _ hp)); have HN6 := LH (hn5.pb HPS.out HF4.out)
 have HB6 := LH (HB5.out.trans HPS.out); have HP6 := LH (HP5.out.to (k + 2 + 1 + A0.length + 1)); have HZ6 := LH (HZ5.out.zpb HPS.out HLT.out)
 have HS6 := LH (show (w5.setCell ⟨pb, 1, none⟩ (.int .i64 ((k + 2 + 1 + A0.length + 1 : Nat) : Int))).heap.size = w5.heap.size from set_size _ _ _)
 have hkx : (k + 2 + 1 + A0.length : Nat) < ts.length := (List.getElem?_eq_some_iff.1 HCT.out).1
 have hcs : (((k + 2 + 1 + A0.length + 1 : Nat)) : Int) = ((k + 2 + 1 + A0.length : Nat) : Int) + 1 := by omega
 rw [hcs] at HPS HK6 HO6 HN6 HB6 HP6 HZ6 HS6
 generalize hkk : (k + 2 + 1 + A0.length : Nat) = kk at *
 have HKK := LH hkk
 clear hb5 hp5 hk5 ho5 hn5 hcs hkk
 go_upto_region 12 with (fail)
 clear c1 lp fp1
 generalize w5.setCell ⟨pb, 1, none⟩ (.int .i64 ((kk : Int) + 1)) = w6 at *
 go_wp2_with fail
 refine (pkind_at HP6.out HPT.out hl).mono ?_
 rintro e w7 ⟨rfl, hb7, hs7⟩
 have HK7 := LH (HK6.out.belowW hb7); have HO7 := LH (HO6.out.belowW hb7); have HN7 := LH (HN6.out.belowW hb7)
 have HB7 := LH (HB6.out.trans (PB.of hb7 (Nat.le_of_lt HP6.out.lt))); have HP7 := LH (HP6.out.belowW hb7); have HZ7 := LH (HZ6.out.belowW hb7)
 have HS7 := LH (hs7.trans HS6.out)
 clear hb7 hs7 HK6 HO6 HN6
 have HS7L := LH (show w5.heap.size ≤ w7.heap.size from Nat.le_of_eq HS7.out.symm)
 go_wp2_with fail
 refine (ptree_any w7 (rng w4.heap.size w5.heap.size) ⟨ska, skn, skc⟩ ⟨soa, son, soc⟩ nl (v0 wx) HK7.out HO7.out HN7.out (fun b h => Nat.lt_of_lt_of_le h.2 HS7L.out)).mono ?_
 rintro e wt ⟨hbt, x, rfl, hx⟩
 obtain ⟨kd, fl, tx, xn, ⟨l1, l2, l3⟩, ⟨r1, r2, r3⟩, ⟨oa, on, oc⟩, ⟨ka, kn, kc⟩⟩ := x
 unfold NV.val
 simp only []
 have HBt := LH (HB7.out.trans (PB.of hbt (Nat.le_of_lt HP7.out.lt))); have HPt := LH (HP7.out.belowW hbt); have HZt := LH (HZ7.out.belowW hbt); have HXt := LH hx
 have HFB := LH (fun (b : Nat) (h : rng w4.heap.size w5.heap.size b) => (show w.heap.size < b ∧ b < wt.heap.size from ⟨Nat.lt_of_lt_of_le HW4.out h.1, Nat.lt_of_lt_of_le h.2 (Nat.le_trans HS7L.out hbt.size)⟩))
 clear hbt hx
 have hzz := HZt.out
 obtain ⟨z0, z1, z2, z3, z4, z5, z6, z7, z8, z9, z10, z11, fz0, fz1, fz2, fz3, fz4, fz5, fz6, fz7, fz8, fz9, fz10, fz11, lz⟩ := blk12 hzz
 clear hzz
 go_wp2
 refine bodyPost_ret (v := NV.val ⟨kd, fl, tx, xn, ⟨l1, l2, l3⟩, ⟨r1, r2, r3⟩, ⟨oa, on, oc⟩, ⟨ka, kn, kc⟩⟩) ?_ rfl ?_
 ·simp [results, Tryd.results91, go_sem, NV.val, bd0, str, lz, fz0, fz1, fz2, fz3, fz4, fz5, fz6, fz7, fz8, fz9, fz10, fz11, z0, z1, z2, z3, z4, z5, z6, z7, z8, z9, z10, z11]
 ·exact PtRet.tree HLT.out HBt.out HPt.out (by have := HKK.out; (try simp only [List.length_cons, List.length_append, List.length_nil]); omega) rfl HXt.out HFB.out
theorem patom_fgroupL (w : World) (pb : Nat) (PA : Option Addr) (cap : Nat) (ts : List Lt) (k : Nat) (f : List UInt8) (h : PsAt w pb PA cap ts k) (hok : TkOk ts) (M : Nat) (hL : LsOk pb PA cap ts M) (w_ c_ : Lt) (hw1 : w_.kind = 1) (hc14 : c_.kind = 14) (o c l : Lt) (A0 : List Lt) (n0 : Nat) (v0 : Vl) (post : List Lt) (hD : D .list A0 n0 v0) (hlen : A0.length < M) (ho8 : o.kind = 8) (hc9 : c.kind = 9) (hl21 : l.kind = 21) (hd0 : ts.drop k = (w_ :: c_ :: (o :: (A0 ++ [c, l]))) ++ post) (hp : Hd post [14, 20, 21]) :
  Calls Tryd.prog 91 #[.pointer (some ⟨pb, 0, none⟩), .string (str f)] w (PtRet pb PA cap ts (k + (w_ :: c_ :: (o :: (A0 ++ [c, l]))).length) [(0, lstN l.n (v0 w_.text))] w) := by
 obtain ⟨wk, wx, wn, wa, we⟩ := w_
 simp only [] at hw1
 have h0 : ts[k]? = some ⟨wk, wx, wn, wa, we⟩ := tk_at (j := 0) hd0 rfl
 have h1 : ts[k + 1]? = some c_ := tk_at (j := 1) hd0 rfl
 have e8n : ((wk : Int) != 8) = true := by rw [hw1]; rfl
 have e14 : ((c_.kind : Int) == 14) = true := by rw [hc14]; rfl
 have e2 : ((wk : Int) == 2) = false := by rw [hw1]; rfl
 have hd := dropk (X := [⟨wk, wx, wn, wa, we⟩, c_]) (Y := (o :: (A0 ++ [c, l])) ++ post) hd0
 have HLW := LH h.rd.open_
 clear hw1 hc14 hd0
 have h2 : ts[k + 2]? = some o := tk_at (j := 0) hd rfl
 have HK8 := LH (show decide (o.kind = 8) = true from decide_eq_true ho8)
 have hdr : ts.drop (k + 2 + 1) = A0 ++ (c :: (l :: post)) := by
  have h1 := dropk (X := [o]) (Y := A0 ++ (c :: (l :: post))) (ts := ts) (k := k + 2) (by rw [show k + 2 = k + [(⟨wk, wx, wn, wa, we⟩ : Lt), c_].length from rfl, hd]; simp)
  exact h1
 have HDL := LH hdr
 have hdc : ts.drop (k + 2 + 1 + A0.length) = c :: (l :: post) := dropk hdr
 have HCT := LH (show ts[k + 2 + 1 + A0.length]? = some c from by have := tk_at (A := [c]) (j := 0) hdc rfl; simpa using this)
 have HD0 := LH hD
 have HPT := LH (show ts[k + 2 + 1 + A0.length + 1]? = some l from tk_at (A := [c, l]) (j := 1) hdc rfl)
 obtain ⟨lk, lx, ln, la, le⟩ := l
 simp only [] at hl21
 have e21 : ((lk : Int) == 21) = true := by rw [hl21]; rfl
 have hfd := fun (W : World) => field_lex2 lk (str lx) ln la le W
 clear hl21
 clear hd hdr hdc ho8 hD
 have HLT := LH h.lt
 have hl : ts.length ≤ 920000000000 := by have := hok.1; omega
 have HA1 := LH (h.alloc zO)
 have HZ1 := LH (Blk.new w 27 zA)
 have HB1 := LH (PB.of (pb := pb) ((Below.refl w.heap.size w).alloc (Nat.le_refl _) zO) (Nat.le_of_lt h.lt))
 have hw1 : (w.alloc zO).heap.size = w.heap.size + 1 := World.size_alloc _ _
 have HW1 := LH hw1
 clear h hw1
 go_enter Tryd.func91, Tryd.ntmps91
 go_upto_region 1 with (fail)
 generalize w.alloc zO = w1 at *
 have c0 := HA1.out.blk.cell 0; have c1 := HA1.out.blk.cell 1
 simp only [List.getElem?_toArray, List.getElem?_cons_zero, List.getElem?_cons_succ] at c0 c1
 obtain ⟨a, rfl, hab, q0⟩ := kat HA1.out.rd h0
 have hkl : k < ts.length := (List.getElem?_eq_some_iff.1 h0).1
 obtain ⟨a', ha', hab', q1⟩ := kat HA1.out.rd h1
 cases ha'
 have hkl1 : k + 1 < ts.length := (List.getElem?_eq_some_iff.1 h1).1
 have hwk : IntKind.i64.wrap ((k : Int) + 1) = (k : Int) + 1 := IntWalk.i64_in _ (by omega)
 have hk0 : 0 ≤ (k : Int) + 1 := by omega
 have hkt : ((k : Int) + 1).toNat = k + 1 := by omega
 have hklt : (k : Int) + 1 < (ts.length : Int) := by omega
 clear hab' 
 go_quiet (fail)
 have HA1d := LH (HA1.out.belowW (below_drewN (Below.refl _ _) nq))
 have HZ1d := LH (HZ1.out.drewN nq)
 have HB1d := LH (HB1.out.trans (PB.of (below_drewN (Below.refl _ _) nq) (Nat.le_of_lt HA1.out.lt)))
 clear c0 c1 q0 q1 hkt hk0 hklt
 generalize w1.drewN nq = w2 at *
 clear HA1 HZ1 HB1
 go_wp2_with fail
 refine (pnext_at HA1d.out h0 hl).mono ?_
 rintro e wb ⟨rfl, hbn, hpn⟩
 unfold ltVal
 simp only []
 have HBb := LH ((HB1d.out.trans hbn).alloc (Nat.le_of_lt HLT.out) (.cells #[.int .i64 wk, .string (str wx), .int .i64 wn, .int .i64 wa, .int .i64 we] 74))
 have HZb := LH ((HZ1d.out.zpb hbn HLT.out).alloc (.cells #[.int .i64 wk, .string (str wx), .int .i64 wn, .int .i64 wa, .int .i64 we] 74))
 have HPb := LH (hpn.alloc (.cells #[.int .i64 wk, .string (str wx), .int .i64 wn, .int .i64 wa, .int .i64 we] 74))
 have HTb := LH (Blk.new wb 74 #[.int .i64 wk, .string (str wx), .int .i64 wn, .int .i64 wa, .int .i64 we])
 have HNb := LH (show wb.heap.size ≠ pb from by have := hpn.lt; omega)
 clear hbn hpn
 go_upto_region 3 with (fail)
 generalize wb.alloc (.cells #[.int .i64 wk, .string (str wx), .int .i64 wn, .int .i64 wa, .int .i64 we] 74) = wc at *
 have c1 := HPb.out.blk.cell 1; have lp := HPb.out.lt; have fp1 := HPb.out.blk.frozen 1
 simp only [List.getElem?_toArray, List.getElem?_cons_zero, List.getElem?_cons_succ] at c1
 have hcs : ((k + 2 : Nat) : Int) = ((k + 1 : Nat) : Int) + 1 := by omega
 have HPc := LH (show PsAt (wc.setCell ⟨pb, 1, none⟩ (.int .i64 (((k + 1 : Nat) : Int) + 1))) pb (some a) cap ts (k + 2) from by rw [← hcs]; exact HPb.out.to (k + 2))
 have HPS := LH (PB.set_ (pb := pb) (w := wc) 1 (.int .i64 (((k + 1 : Nat) : Int) + 1)))
 have HBc := LH (HBb.out.trans HPS.out)
 have HZc := LH (HZb.out.zpb HPS.out HLT.out)
 have HTc := LH (HTb.out.pb HPS.out HNb.out)
 clear hcs
 generalize hkk1 : (k + 1 : Nat) = kk1 at *
 have HKK1 := LH hkk1
 clear hkk1
 go_upto_region 4 with (fail)
 clear c1 lp fp1
 generalize wc.setCell ⟨pb, 1, none⟩ (.int .i64 ((kk1 : Int) + 1)) = wd at *
 have t0 := HTc.out.cell 0; have t1 := HTc.out.cell 1
 simp only [List.getElem?_toArray, List.getElem?_cons_zero, List.getElem?_cons_succ] at t0 t1
 go_wp2_with fail
 refine (ptakes_at 8 HPc.out h2 hl).mono ?_
 rintro e w4 ⟨rfl, hbt, hpt⟩
 rw [HK8.out] at hpt ⊢
 simp only [Bool.false_eq_true, if_false, if_true] at hpt
 have HP4 := LH hpt; have HB4 := LH (HBc.out.trans hbt); have HZ4 := LH (HZc.out.zpb hbt HLT.out)
 clear hbt hpt
 go_wp2_with fail
 refine (hL A0 n0 v0 HD0.out hlen w4 (k + 2 + 1) wx _ HDL.out ⟨_, _, rfl, .inr hc9⟩ HP4.out).mono ?_
 rintro e w5 ⟨hb5, hp5, ⟨ska, skn, skc⟩, ⟨soa, son, soc⟩, nl, rfl, hk5, ho5, hn5⟩
 have HB5 := LH (HB4.out.trans hb5); have HP5 := LH hp5; have HZ5 := LH (HZ4.out.zpb hb5 HLT.out)
 have HW4 := LH (show w.heap.size < w4.heap.size from HZ4.out.lt)
 have HW5 := LH (show w4.heap.size ≤ w5.heap.size from hb5.size)
 have c1 := hp5.blk.cell 1; have lp := hp5.lt; have fp1 := hp5.blk.frozen 1
 simp only [List.getElem?_toArray, List.getElem?_cons_zero, List.getElem?_cons_succ] at c1
 have HPS := LH (PB.set_ (pb := pb) (w := w5) 1 (.int .i64 ((k + 2 + 1 + A0.length + 1 : Nat) : Int)))
 have HF4 := LH (fun (b : Nat) (h : rng w4.heap.size w5.heap.size b) => (show b ≠ pb from by have h1 := h.1; have h2 := HW4.out; have h3 := HLT.out; omega))
 have HK6 := LH (hk5.keep fun p hp hlt => HPS.out.cell p hlt (HF4.out _ hp)); have HO6 := LH (ho5.keep fun p hp hlt => HPS.out.cell p hlt (HF4.out _ hp)); have HN6 := LH (hn5.pb HPS.out HF4.out)
 have HB6 := LH (HB5.out.trans HPS.out); have HP6 := LH (HP5.out.to (k + 2 + 1 + A0.length + 1)); have HZ6 := LH (HZ5.out.zpb HPS.out HLT.out)
 have HS6 := LH (show (w5.setCell ⟨pb, 1, none⟩ (.int .i64 ((k + 2 + 1 + A0.length + 1 : Nat) : Int))).heap.size = w5.heap.size from set_size _ _ _)
 have hkx : (k + 2 + 1 + A0.length : Nat) < ts.length := (List.getElem?_eq_some_iff.1 HCT.out).1
 have hcs : (((k + 2 + 1 + A0.length + 1 : Nat)) : Int) = ((k + 2 + 1 + A0.length : Nat) : Int) + 1 := by omega
 rw [hcs] at HPS HK6 HO6 HN6 HB6 HP6 HZ6 HS6
 generalize hkk : (k + 2 + 1 + A0.length : Nat) = kk at *
 have HKK := LH hkk
 clear hb5 hp5 hk5 ho5 hn5 hcs hkk
 go_upto_region 12 with (fail)
 clear c1 lp fp1
 generalize w5.setCell ⟨pb, 1, none⟩ (.int .i64 ((kk : Int) + 1)) = w6 at *
 go_wp2_with fail
 refine (pkind_at HP6.out HPT.out hl).mono ?_
 rintro e w7 ⟨rfl, hb7, hs7⟩
 have HK7 := LH (HK6.out.belowW hb7); have HO7 := LH (HO6.out.belowW hb7); have HN7 := LH (HN6.out.belowW hb7)
 have HB7 := LH (HB6.out.trans (PB.of hb7 (Nat.le_of_lt HP6.out.lt))); have HP7 := LH (HP6.out.belowW hb7); have HZ7 := LH (HZ6.out.belowW hb7)
 have HS7 := LH (hs7.trans HS6.out)
 clear hb7 hs7 HK6 HO6 HN6
 go_wp2_with fail
 refine (pnext_at HP7.out HPT.out hl).mono ?_
 rintro e w8 ⟨rfl, hb8, hp8⟩
 unfold ltVal
 simp only []
 have HF5 := LH (fun (b : Nat) (h : rng w4.heap.size w5.heap.size b) => HF4.out b h)
 have HK8 := LH (HK7.out.keep fun p hp hlt => hb8.cell p hlt (HF4.out _ hp)); have HO8 := LH (HO7.out.keep fun p hp hlt => hb8.cell p hlt (HF4.out _ hp)); have HN8 := LH (HN7.out.pb hb8 HF4.out)
 have HB8 := LH (HB7.out.trans hb8); have HP8 := LH hp8; have HZ8 := LH (HZ7.out.zpb hb8 HLT.out)
 have HS8L := LH (show w5.heap.size ≤ w8.heap.size from by have h1 := HS7.out; have h2 := hb8.size; omega)
 clear hb8 hp8
 by_cases hn0 : 0 < ln
 ·have e0 : decide (0 < ln) = true := by simpa using hn0
  have HVT := LH (show lstN ln (v0 wx) = ndList ln (v0 wx) from if_pos hn0)
  clear hn0
  have hzz := HZ8.out
  obtain ⟨z0, z1, z2, z3, z4, z5, z6, z7, z8, z9, z10, z11, fz0, fz1, fz2, fz3, fz4, fz5, fz6, fz7, fz8, fz9, fz10, fz11, lz⟩ := blk12 hzz
  clear hzz
  go_wp2
  refine bodyPost_ret (v := NV.val ⟨9, [], [], ln, bd0, bd0, ⟨soa, son, soc⟩, ⟨ska, skn, skc⟩⟩) ?_ rfl ?_
  ·simp [results, Tryd.results91, go_sem, NV.val, bd0, str, lz, fz0, fz1, fz2, fz3, fz4, fz5, fz6, fz7, fz8, fz9, fz10, fz11, z0, z1, z2, z3, z4, z5, z6, z7, z8, z9, z10, z11]
  ·have HFB := LH (fun (b : Nat) (h : rng w4.heap.size w5.heap.size b) => (show w.heap.size < b ∧ b < w8.heap.size from ⟨Nat.lt_of_lt_of_le HW4.out h.1, Nat.lt_of_lt_of_le h.2 HS8L.out⟩))
   exact PtRet.tree HLT.out HB8.out HP8.out (by have := HKK.out; (try simp only [List.length_cons, List.length_append, List.length_nil]); omega) (by show [((0 : Int), lstN ln (v0 wx))] = _; rw [HVT.out]; rfl) (NdR.mk HO8.out HK8.out HN8.out.1 HN8.out.2) HFB.out
 ·have e0 : decide (0 < ln) = false := by simpa using hn0
  have HVT := LH (show lstN ln (v0 wx) = treeN (v0 wx) from if_neg hn0)
  clear hn0
  go_wp2_with fail
  refine (ptree_any w8 (rng w4.heap.size w5.heap.size) ⟨ska, skn, skc⟩ ⟨soa, son, soc⟩ nl (v0 wx) HK8.out HO8.out HN8.out (fun b h => Nat.lt_of_lt_of_le h.2 HS8L.out)).mono ?_
  rintro e wt ⟨hbt, x, rfl, hx⟩
  obtain ⟨kd, fl, tx, xn, ⟨l1, l2, l3⟩, ⟨r1, r2, r3⟩, ⟨oa, on, oc⟩, ⟨ka, kn, kc⟩⟩ := x
  unfold NV.val
  simp only []
  have HBt := LH (HB8.out.trans (PB.of hbt (Nat.le_of_lt HP8.out.lt))); have HPt := LH (HP8.out.belowW hbt); have HZt := LH (HZ8.out.belowW hbt); have HXt := LH hx
  have HFB := LH (fun (b : Nat) (h : rng w4.heap.size w5.heap.size b) => (show w.heap.size < b ∧ b < wt.heap.size from ⟨Nat.lt_of_lt_of_le HW4.out h.1, Nat.lt_of_lt_of_le h.2 (Nat.le_trans HS8L.out hbt.size)⟩))
  clear hbt hx
  have hzz := HZt.out
  obtain ⟨z0, z1, z2, z3, z4, z5, z6, z7, z8, z9, z10, z11, fz0, fz1, fz2, fz3, fz4, fz5, fz6, fz7, fz8, fz9, fz10, fz11, lz⟩ := blk12 hzz
  clear hzz
  go_wp2
  refine bodyPost_ret (v := NV.val ⟨kd, fl, tx, xn, ⟨l1, l2, l3⟩, ⟨r1, r2, r3⟩, ⟨oa, on, oc⟩, ⟨ka, kn, kc⟩⟩) ?_ rfl ?_
  ·simp [results, Tryd.results91, go_sem, NV.val, bd0, str, lz, fz0, fz1, fz2, fz3, fz4, fz5, fz6, fz7, fz8, fz9, fz10, fz11, z0, z1, z2, z3, z4, z5, z6, z7, z8, z9, z10, z11]
  ·exact PtRet.tree HLT.out HBt.out HPt.out (by have := HKK.out; (try simp only [List.length_cons, List.length_append, List.length_nil]); omega) (by show [((0 : Int), lstN ln (v0 wx))] = _; rw [HVT.out]) HXt.out HFB.out
theorem patom_all (w : World) (pb : Nat) (PA : Option Addr) (cap : Nat) (ts : List Lt) (k : Nat) (f : List UInt8) (h : PsAt w pb PA cap ts k) (hok : TkOk ts) (s_ c_ t_ : Lt) (post : List Lt) (hs : starT s_ = true) (hc14 : c_.kind = 14) (hd0 : ts.drop k = [s_, c_, t_] ++ post) :
  Calls Tryd.prog 91 #[.pointer (some ⟨pb, 0, none⟩), .string (str f)] w (PtRet pb PA cap ts (k + 3) [(0, ndLeaf 8 [] [] 0)] w) := by
 have hw2 : s_.kind = 2 := by simp [starT] at hs; exact hs.1
 obtain ⟨wk, wx, wn, wa, we⟩ := s_
 simp only [] at hw2
 have h0 : ts[k]? = some ⟨wk, wx, wn, wa, we⟩ := tk_at (j := 0) hd0 rfl
 have h1 : ts[k + 1]? = some c_ := tk_at (j := 1) hd0 rfl
 have h2 : ts[k + 2]? = some t_ := tk_at (j := 2) hd0 rfl
 have e8n : ((wk : Int) != 8) = true := by rw [hw2]; rfl
 have e14 : ((c_.kind : Int) == 14) = true := by rw [hc14]; rfl
 have e2 : ((wk : Int) == 2) = true := by rw [hw2]; rfl
 have HLW := LH h.rd.open_
 clear hs hw2 hc14 hd0
 have HLT := LH h.lt
 have hl : ts.length ≤ 920000000000 := by have := hok.1; omega
 have HA1 := LH (h.alloc zO)
 have HZ1 := LH (Blk.new w 27 zA)
 have HB1 := LH (PB.of (pb := pb) ((Below.refl w.heap.size w).alloc (Nat.le_refl _) zO) (Nat.le_of_lt h.lt))
 have hw1 : (w.alloc zO).heap.size = w.heap.size + 1 := World.size_alloc _ _
 have HW1 := LH hw1
 clear h hw1
 go_enter Tryd.func91, Tryd.ntmps91
 go_upto_region 1 with (fail)
 generalize w.alloc zO = w1 at *
 have c0 := HA1.out.blk.cell 0; have c1 := HA1.out.blk.cell 1
 simp only [List.getElem?_toArray, List.getElem?_cons_zero, List.getElem?_cons_succ] at c0 c1
 obtain ⟨a, rfl, hab, q0⟩ := kat HA1.out.rd h0
 have hkl : k < ts.length := (List.getElem?_eq_some_iff.1 h0).1
 obtain ⟨a', ha', hab', q1⟩ := kat HA1.out.rd h1
 cases ha'
 have hkl1 : k + 1 < ts.length := (List.getElem?_eq_some_iff.1 h1).1
 have hwk : IntKind.i64.wrap ((k : Int) + 1) = (k : Int) + 1 := IntWalk.i64_in _ (by omega)
 have hk0 : 0 ≤ (k : Int) + 1 := by omega
 have hkt : ((k : Int) + 1).toNat = k + 1 := by omega
 have hklt : (k : Int) + 1 < (ts.length : Int) := by omega
 clear hab' 
 go_quiet (fail)
 have HA1d := LH (HA1.out.belowW (below_drewN (Below.refl _ _) nq))
 have HZ1d := LH (HZ1.out.drewN nq)
 have HB1d := LH (HB1.out.trans (PB.of (below_drewN (Below.refl _ _) nq) (Nat.le_of_lt HA1.out.lt)))
 clear c0 c1 q0 q1 hkt hk0 hklt
 generalize w1.drewN nq = w2 at *
 clear HA1 HZ1 HB1
 go_wp2_with fail
 refine (pnext_at HA1d.out h0 hl).mono ?_
 rintro e wb ⟨rfl, hbn, hpn⟩
 unfold ltVal
 simp only []
 have HBb := LH ((HB1d.out.trans hbn).alloc (Nat.le_of_lt HLT.out) (.cells #[.int .i64 wk, .string (str wx), .int .i64 wn, .int .i64 wa, .int .i64 we] 74))
 have HZb := LH ((HZ1d.out.zpb hbn HLT.out).alloc (.cells #[.int .i64 wk, .string (str wx), .int .i64 wn, .int .i64 wa, .int .i64 we] 74))
 have HPb := LH (hpn.alloc (.cells #[.int .i64 wk, .string (str wx), .int .i64 wn, .int .i64 wa, .int .i64 we] 74))
 have HTb := LH (Blk.new wb 74 #[.int .i64 wk, .string (str wx), .int .i64 wn, .int .i64 wa, .int .i64 we])
 have HNb := LH (show wb.heap.size ≠ pb from by have := hpn.lt; omega)
 clear hbn hpn
 go_upto_region 3 with (fail)
 generalize wb.alloc (.cells #[.int .i64 wk, .string (str wx), .int .i64 wn, .int .i64 wa, .int .i64 we] 74) = wc at *
 have c1 := HPb.out.blk.cell 1; have lp := HPb.out.lt; have fp1 := HPb.out.blk.frozen 1
 simp only [List.getElem?_toArray, List.getElem?_cons_zero, List.getElem?_cons_succ] at c1
 have hcs : ((k + 2 : Nat) : Int) = ((k + 1 : Nat) : Int) + 1 := by omega
 have HPc := LH (show PsAt (wc.setCell ⟨pb, 1, none⟩ (.int .i64 (((k + 1 : Nat) : Int) + 1))) pb (some a) cap ts (k + 2) from by rw [← hcs]; exact HPb.out.to (k + 2))
 have HPS := LH (PB.set_ (pb := pb) (w := wc) 1 (.int .i64 (((k + 1 : Nat) : Int) + 1)))
 have HBc := LH (HBb.out.trans HPS.out)
 have HZc := LH (HZb.out.zpb HPS.out HLT.out)
 have HTc := LH (HTb.out.pb HPS.out HNb.out)
 clear hcs
 generalize hkk1 : (k + 1 : Nat) = kk1 at *
 have HKK1 := LH hkk1
 clear hkk1
 go_upto_region 4 with (fail)
 clear c1 lp fp1
 generalize wc.setCell ⟨pb, 1, none⟩ (.int .i64 ((kk1 : Int) + 1)) = wd at *
 have t0 := HTc.out.cell 0; have t1 := HTc.out.cell 1
 simp only [List.getElem?_toArray, List.getElem?_cons_zero, List.getElem?_cons_succ] at t0 t1
 have c1 := HPc.out.blk.cell 1; have lp := HPc.out.lt; have fp1 := HPc.out.blk.frozen 1
 simp only [List.getElem?_toArray, List.getElem?_cons_zero, List.getElem?_cons_succ] at c1
 have hkl2 : k + 2 < ts.length := (List.getElem?_eq_some_iff.1 h2).1
 have hcs : ((k + 3 : Nat) : Int) = ((k + 2 : Nat) : Int) + 1 := by omega
 have HPS2 := LH (PB.set_ (pb := pb) (w := wd) 1 (.int .i64 (((k + 2 : Nat) : Int) + 1)))
 have HPe := LH (show PsAt (wd.setCell ⟨pb, 1, none⟩ (.int .i64 (((k + 2 : Nat) : Int) + 1))) pb (some a) cap ts (k + 3) from by rw [← hcs]; exact HPc.out.to (k + 3))
 have HBe := LH (HBc.out.trans HPS2.out)
 have HZe := LH (HZc.out.zpb HPS2.out HLT.out)
 generalize hkk2 : (k + 2 : Nat) = kk2 at *
 clear hkk2 hcs
 go_upto_region 6 with (fail)
 clear c1 lp fp1
 generalize wd.setCell ⟨pb, 1, none⟩ (.int .i64 ((kk2 : Int) + 1)) = we2 at *
 have hzz := HZe.out
 obtain ⟨z0, z1, z2, z3, z4, z5, z6, z7, z8, z9, z10, z11, fz0, fz1, fz2, fz3, fz4, fz5, fz6, fz7, fz8, fz9, fz10, fz11, lz⟩ := blk12 hzz
 clear hzz
 go_wp2
 refine bodyPost_ret (v := (nvLeaf 8 [] [] 0).val) ?_ rfl ?_
 ·simp [results, Tryd.results91, go_sem, NV.val, nvLeaf, bd0, str, lz, fz0, fz1, fz2, fz3, fz4, fz5, fz6, fz7, fz8, fz9, fz10, fz11, z0, z1, z2, z3, z4, z5, z6, z7, z8, z9, z10, z11]
 ·exact PtRet.leaf HLT.out HBe.out HPe.out rfl rfl
theorem patom_of {pb : Nat} {PA : Option Addr} {cap : Nat} {ts : List Lt} {M : Nat} (hok : TkOk ts) (hL : LsOk pb PA cap ts M) : AtOk pb PA cap ts (M + 1) := by
 intro A n v hD hlen w k f post hd hp h
 cases hD with
 | bodyA hb =>
  cases hb with
  | leafB hl => exact patom_leaf w pb PA cap ts k f h hok _ _ _ post hl hd hp
  | groupB hg =>
   cases hg with
   | group h1 h2 h3 =>
    simp only [List.length_cons, List.length_append, List.length_nil] at hlen
    exact patom_group w pb PA cap ts k f h hok M hL _ _ _ _ _ post h2 (by omega) h1 h3 hd hp
   | least h1 h2 h3 h4 =>
    simp only [List.length_cons, List.length_append, List.length_nil] at hlen
    exact patom_groupL w pb PA cap ts k f h hok M hL _ _ _ _ _ _ post h2 (by omega) h1 h3 h4 hd hp
 | field hw hc hb =>
  cases hb with
  | leafB hl => exact patom_fleaf w pb PA cap ts k f h hok _ _ _ _ _ post hl hw hc hd hp
  | groupB hg =>
   cases hg with
   | group h1 h2 h3 =>
    simp only [List.length_cons, List.length_append, List.length_nil] at hlen
    exact patom_fgroup w pb PA cap ts k f h hok M hL _ _ hw hc _ _ _ _ _ post h2 (by omega) h1 h3 hd hp
   | least h1 h2 h3 h4 =>
    simp only [List.length_cons, List.length_append, List.length_nil] at hlen
    exact patom_fgroupL w pb PA cap ts k f h hok M hL _ _ hw hc _ _ _ _ _ _ post h2 (by omega) h1 h3 h4 hd hp
 | all h1 h2 h3 => exact patom_all w pb PA cap ts k f h hok _ _ _ post h1 h2 hd
end Go.Proofs.YthcldpminmhgkaaDoor
end
