/- Merged for a claim by shake.py: Jam -/
import Derived.Test.YthcldpminmhgkaaDoorKrA
import Derived.Test.YthcldpminmhgkaaDoorKr30
set_option maxRecDepth 100000
set_option maxHeartbeats 4000000
set_option linter.unusedSimpArgs false
set_option linter.unusedVariables false
section
namespace Go.Proofs.YthcldpminmhgkaaDoor
open Go.RowKit
abbrev nvZero : Array Value := zA
def TrE2 (t : Nd) (v : Value) (w : World) (e : Ending) (w' : World) : Prop := Below w.heap.size w w' ∧ ∃ (kd xn : Int) (fl tx : List UInt8) (la lb : Bool) (lc : List UInt8) (ra rb : Bool) (rc : List UInt8) (oa : Option Addr) (on oc : Nat) (ka : Option Addr) (kn kc : Nat),
 e = .returned (.tuple #[.agg #[.int .i64 kd, .string (str fl), .string (str tx), .int .i64 xn, .bool la, .bool lb, .string (str lc), .bool ra, .bool rb, .string (str rc), .slice oa on oc, .slice ka kn kc], v]) ∧ NdR w' (rng w.heap.size w'.heap.size) ⟨kd, fl, tx, xn, ⟨la, lb, lc⟩, ⟨ra, rb, rc⟩, ⟨oa, on, oc⟩, ⟨ka, kn, kc⟩⟩ t
theorem TrE2.set {t : Nd} {v : Value} {w W : World} {z : Nat} {kd xn : Int} {fl tx : List UInt8} {la lb : Bool} {lc : List UInt8} {ra rb : Bool} {rc : List UInt8} {oa : Option Addr} {on oc : Nat} {ka : Option Addr} {kn kc : Nat} (hb : Below w.heap.size w W) (hz : w.heap.size ≤ z) (hx : NdR W (fun b => z < b ∧ b < W.heap.size) ⟨kd, fl, tx, xn, ⟨la, lb, lc⟩, ⟨ra, rb, rc⟩, ⟨oa, on, oc⟩, ⟨ka, kn, kc⟩⟩ t) :
  TrE2 t v w (.returned (.tuple #[.agg #[.int .i64 kd, .string (str fl), .string (str tx), .int .i64 xn, .bool la, .bool lb, .string (str lc), .bool ra, .bool rb, .string (str rc), .slice oa on oc, .slice ka kn kc], v])) (set12 W z ⟨kd, fl, tx, xn, ⟨la, lb, lc⟩, ⟨ra, rb, rc⟩, ⟨oa, on, oc⟩, ⟨ka, kn, kc⟩⟩) :=
 ⟨set12_bel hb hz, kd, xn, fl, tx, la, lb, lc, ra, rb, rc, oa, on, oc, ka, kn, kc, rfl, (hx.set12 fun b h e => by rw [e] at h; exact Nat.lt_irrefl _ h.1).mono fun b h => ⟨Nat.le_trans hz (Nat.le_of_lt h.1), by rw [set12_size]; exact h.2⟩⟩
theorem pcanonw_yes (t : Nd) (hg : goodN t = true) (w : World) (F : Nat → Prop) (x : NV) (ea : List Addr) (ei : Nat) (hx : NdR w F x t) (hbk : bkN t ≤ 900000000000) (hA : AskEnv w) (hE : ErrAt w 0 (errI ea ei)) :
  Calls Tryd.prog 16 #[x.val] w (TrE2 (canonN t) .nilIface w) := by
 have HA := LH hA; have HE := LH hE; have HX := LH hx
 clear hA hE hx
 obtain ⟨kd, fl, tx, xn, ⟨la, lb, lc⟩, ⟨ra, rb, rc⟩, ⟨oa, on, oc⟩, ⟨ka, kn, kc⟩⟩ := x
 have HB1 := LH (((Below.refl w.heap.size w).alloc (Nat.le_refl _) (.cells #[.int .i64 kd, .string (str fl), .string (str tx), .int .i64 xn, .bool la, .bool lb, .string (str lc), .bool ra, .bool rb, .string (str rc), .slice oa on oc, .slice ka kn kc] 27)).alloc (by rw [World.size_alloc]; exact Nat.le_succ _) zO)
 have HN1 := LH ((Blk.new w 27 #[.int .i64 kd, .string (str fl), .string (str tx), .int .i64 xn, .bool la, .bool lb, .string (str lc), .bool ra, .bool rb, .string (str rc), .slice oa on oc, .slice ka kn kc]).alloc zO)
 have HZ1 := LH (show Blk ((w.alloc (.cells #[.int .i64 kd, .string (str fl), .string (str tx), .int .i64 xn, .bool la, .bool lb, .string (str lc), .bool ra, .bool rb, .string (str rc), .slice oa on oc, .slice ka kn kc] 27)).alloc zO) (w.heap.size + 1) 27 zA from by have h := Blk.new (w.alloc (.cells #[.int .i64 kd, .string (str fl), .string (str tx), .int .i64 xn, .bool la, .bool lb, .string (str lc), .bool ra, .bool rb, .string (str rc), .slice oa on oc, .slice ka kn kc] 27)) 27 zA; rw [World.size_alloc] at h; exact h)
 have HX1 := LH (HX.out.belowW HB1.out)
 have HC := LH (pcheck_any t ((w.alloc (.cells #[.int .i64 kd, .string (str fl), .string (str tx), .int .i64 xn, .bool la, .bool lb, .string (str lc), .bool ra, .bool rb, .string (str rc), .slice oa on oc, .slice ka kn kc] 27)).alloc zO) F _ ea ei HX1.out hbk (HA.out.below HB1.out) (HE.out.below HE.out.2 HB1.out))
 have HK := LH (fun (W : World) (hW : NdR W F ⟨kd, fl, tx, xn, ⟨la, lb, lc⟩, ⟨ra, rb, rc⟩, ⟨oa, on, oc⟩, ⟨ka, kn, kc⟩⟩ t) => pcanon_any t W F _ hW hbk hg)
 unfold NV.val at HC HK ⊢
 simp only [] at HC HK
 go_enter Tryd.func16, Tryd.ntmps16
 go_wp2_with fail
 generalize ((w.alloc (.cells #[.int .i64 kd, .string (str fl), .string (str tx), .int .i64 xn, .bool la, .bool lb, .string (str lc), .bool ra, .bool rb, .string (str rc), .slice oa on oc, .slice ka kn kc] 27)).alloc zO) = w1 at *
 have hn := HN1.out
 have nzz := HN1.out
 obtain ⟨n0, n1, n2, n3, n4, n5, n6, n7, n8, n9, n10, n11, -, -, -, -, -, -, -, -, -, -, -, -, ln⟩ := blk12 nzz; (try simp only [World.size_alloc] at ln)
 clear nzz
 refine HC.out.mono ?_
 rintro e w2 h
 obtain ⟨hb2, rfl⟩ := h.iyes hg
 have HB2 := LH (HB1.out.trans (hb2.mono HB1.out.size))
 have HN2 := LH (HN1.out.belowW hb2)
 have HZ2 := LH (HZ1.out.belowW hb2)
 have HX2 := LH (HX1.out.belowW hb2)
 clear hb2 h n0 n1 n2 n3 n4 n5 n6 n7 n8 n9 n10 n11 ln hn
 have nzz := HN2.out
 obtain ⟨n0, n1, n2, n3, n4, n5, n6, n7, n8, n9, n10, n11, -, -, -, -, -, -, -, -, -, -, -, -, ln⟩ := blk12 nzz; (try simp only [World.size_alloc] at ln)
 clear nzz
 have HKK := LH (HK.out w2 HX2.out)
 go_wp2_with fail
 refine HKK.out.mono ?_
 rintro e w3 ⟨hb3, kq, nq, fq, tq, aq, bq, cq, dq, eq, gq, oq, pq, qq, rq, sq, uq, rfl, hy⟩
 have HB3 := LH (HB2.out.trans (hb3.mono HB2.out.size))
 have HZ3 := LH (HZ2.out.belowW hb3)
 have hz2 := HZ2.out.lt
 have HY3 := LH (hy.mono (G := fun b => w.heap.size + 1 < b ∧ b < w3.heap.size) (fun b h => ⟨Nat.lt_of_lt_of_le hz2 h.1, h.2⟩))
 clear hb3 hy n0 n1 n2 n3 n4 n5 n6 n7 n8 n9 n10 n11 ln hz2
 have zzz := HZ3.out
 obtain ⟨z0, z1, z2, z3, z4, z5, z6, z7, z8, z9, z10, z11, fz0, fz1, fz2, fz3, fz4, fz5, fz6, fz7, fz8, fz9, fz10, fz11, lz⟩ := blk12 zzz; (try simp only [World.size_alloc] at lz)
 clear zzz
 go_wp2
 refine bodyPost_ret (v := .tuple #[.agg #[.int .i64 kq, .string (str fq), .string (str tq), .int .i64 nq, .bool aq, .bool bq, .string (str cq), .bool dq, .bool eq, .string (str gq), .slice oq pq qq, .slice rq sq uq], .nilIface]) ?_ rfl ?_
 ·simp [results, Tryd.results16, go_sem, NV.val, lz, fz0, fz1, fz2, fz3, fz4, fz5, fz6, fz7, fz8, fz9, fz10, fz11, z0, z1, z2, z3, z4, z5, z6, z7, z8, z9, z10, z11]
 ·exact TrE2.set HB3.out (Nat.le_succ _) HY3.out
theorem pcanonw_no (t : Nd) (hg : goodN t = false) (w : World) (F : Nat → Prop) (x : NV) (ea : List Addr) (ei : Nat) (hx : NdR w F x t) (hbk : bkN t ≤ 900000000000) (hA : AskEnv w) (hE : ErrAt w 0 (errI ea ei)) :
  Calls Tryd.prog 16 #[x.val] w fun e w' => Below w.heap.size w w' ∧ e = .returned (.tuple #[.agg nvZero, errI ea ei]) := by
 have HA := LH hA; have HE := LH hE; have HX := LH hx
 clear hA hE hx
 obtain ⟨kd, fl, tx, xn, ⟨la, lb, lc⟩, ⟨ra, rb, rc⟩, ⟨oa, on, oc⟩, ⟨ka, kn, kc⟩⟩ := x
 have HB1 := LH (((Below.refl w.heap.size w).alloc (Nat.le_refl _) (.cells #[.int .i64 kd, .string (str fl), .string (str tx), .int .i64 xn, .bool la, .bool lb, .string (str lc), .bool ra, .bool rb, .string (str rc), .slice oa on oc, .slice ka kn kc] 27)).alloc (by rw [World.size_alloc]; exact Nat.le_succ _) zO)
 have HN1 := LH ((Blk.new w 27 #[.int .i64 kd, .string (str fl), .string (str tx), .int .i64 xn, .bool la, .bool lb, .string (str lc), .bool ra, .bool rb, .string (str rc), .slice oa on oc, .slice ka kn kc]).alloc zO)
 have HZ1 := LH (show Blk ((w.alloc (.cells #[.int .i64 kd, .string (str fl), .string (str tx), .int .i64 xn, .bool la, .bool lb, .string (str lc), .bool ra, .bool rb, .string (str rc), .slice oa on oc, .slice ka kn kc] 27)).alloc zO) (w.heap.size + 1) 27 zA from by have h := Blk.new (w.alloc (.cells #[.int .i64 kd, .string (str fl), .string (str tx), .int .i64 xn, .bool la, .bool lb, .string (str lc), .bool ra, .bool rb, .string (str rc), .slice oa on oc, .slice ka kn kc] 27)) 27 zA; rw [World.size_alloc] at h; exact h)
 have HX1 := LH (HX.out.belowW HB1.out)
 have HC := LH (pcheck_any t ((w.alloc (.cells #[.int .i64 kd, .string (str fl), .string (str tx), .int .i64 xn, .bool la, .bool lb, .string (str lc), .bool ra, .bool rb, .string (str rc), .slice oa on oc, .slice ka kn kc] 27)).alloc zO) F _ ea ei HX1.out hbk (HA.out.below HB1.out) (HE.out.below HE.out.2 HB1.out))
 have hz1 := fun W => errI_nnil ea ei W
 have hz2 := fun op x y W => errI_guard0 ea ei op x y W
 generalize hv : errI ea ei = v at *
 unfold NV.val at HC ⊢
 simp only [] at HC
 go_enter Tryd.func16, Tryd.ntmps16
 go_wp2_with fail
 generalize ((w.alloc (.cells #[.int .i64 kd, .string (str fl), .string (str tx), .int .i64 xn, .bool la, .bool lb, .string (str lc), .bool ra, .bool rb, .string (str rc), .slice oa on oc, .slice ka kn kc] 27)).alloc zO) = w1 at *
 have nzz := HN1.out
 obtain ⟨n0, n1, n2, n3, n4, n5, n6, n7, n8, n9, n10, n11, -, -, -, -, -, -, -, -, -, -, -, -, ln⟩ := blk12 nzz; (try simp only [World.size_alloc] at ln)
 clear nzz
 refine HC.out.mono ?_
 rintro e w2 h
 obtain ⟨hb2, rfl⟩ := h.ino hg
 have HB2 := LH (HB1.out.trans (hb2.mono HB1.out.size))
 have HZ2 := LH (HZ1.out.belowW hb2)
 have HV2 := LH ((HE.out.below HE.out.2 HB2.out).1)
 clear hb2 h n0 n1 n2 n3 n4 n5 n6 n7 n8 n9 n10 n11 ln
 have zzz := HZ2.out
 obtain ⟨z0, z1, z2, z3, z4, z5, z6, z7, z8, z9, z10, z11, fz0, fz1, fz2, fz3, fz4, fz5, fz6, fz7, fz8, fz9, fz10, fz11, lz⟩ := blk12 zzz; (try simp only [World.size_alloc] at lz)
 clear zzz
 have hv1 := HV2.out
 go_wp2
 go_region
 go_wp2
 refine bodyPost_ret (v := .tuple #[.agg nvZero, v]) ?_ rfl ?_
 ·simp [results, Tryd.results16, go_sem, NV.val, nvZero, lz, fz0, fz1, fz2, fz3, fz4, fz5, fz6, fz7, fz8, fz9, fz10, fz11, z0, z1, z2, z3, z4, z5, z6, z7, z8, z9, z10, z11]
 ·refine ⟨?_, rfl⟩
  repeat (first | with_reducible exact HB2.out | with_reducible refine Below.drew ?_ | with_reducible refine Below.setCell ?_ (by show w.heap.size ≤ w.heap.size + 1; exact Nat.le_succ _) _)
end Go.Proofs.YthcldpminmhgkaaDoor
end
