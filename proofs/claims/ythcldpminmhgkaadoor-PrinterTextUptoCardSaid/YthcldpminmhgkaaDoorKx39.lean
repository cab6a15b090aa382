/- Merged for a claim by shake.py: Jam Jan Jop Jba -/
import Derived.Test.YthcldpminmhgkaaDoorKxA
import Derived.Lib.LaidU8
import Derived.Test.YthcldpminmhgkaaDoorKx29
import Derived.Test.YthcldpminmhgkaaDoorKx38
set_option maxRecDepth 100000
set_option maxHeartbeats 4000000
set_option linter.unusedSimpArgs false
set_option linter.unusedVariables false
section
namespace Go.Proofs.YthcldpminmhgkaaDoor
open Go.RowKit
abbrev nvZero : Array Value := zA
def TrE2 (t : Nd) (v : Value) (w : World) (e : Ending) (w' : World) : Prop := Below w.heap.size w w' ∧ ∃ (kd xn : Int) (fl tx : List UInt8) (la lb : Bool) (lc : List UInt8) (ra rb : Bool) (rc : List UInt8) (oa : Option Addr) (on oc : Nat) (ka : Option Addr) (kn kc : Nat),
 e = .returned (.tuple #[.agg #[.int .i64 kd, .string (str fl), .string (str tx), .int .i64 xn, .bool la, .bool lb, .string (str lc), .bool ra, .bool rb, .string (str rc), .slice oa on oc, .slice ka kn kc], v]) ∧ NdR w' (rng w.heap.size w'.heap.size) ⟨kd, fl, tx, xn, ⟨la, lb, lc⟩, ⟨ra, rb, rc⟩, ⟨oa, on, oc⟩, ⟨ka, kn, kc⟩⟩ t
theorem TrE2.set {t : Nd} {v : Value} {w W : World} {z : Nat} {kd xn : Int} {fl tx : List UInt8} {la lb : Bool} {lc : List UInt8} {ra rb : Bool} {rc : List UInt8} {oa : Option Addr} {on oc : Nat} {ka : Option Addr} {kn kc : Nat} (hb : Below w.heap.size w W) (hz : w.heap.size ≤ z) (hx : NdR W (fun b => z < b ∧ b < W.heap.size) ⟨kd, fl, tx, xn, ⟨la, lb, lc⟩, ⟨ra, rb, rc⟩, ⟨oa, on, oc⟩, ⟨ka, kn, kc⟩⟩ t) :
  TrE2 t v w (.returned (.tuple #[.agg #[.int .i64 kd, .string (str fl), .string (str tx), .int .i64 xn, .bool la, .bool lb, .string (str lc), .bool ra, .bool rb, .string (str rc), .slice oa on oc, .slice ka kn kc], v])) (set12 W z ⟨kd, fl, tx, xn, ⟨la, lb, lc⟩, ⟨ra, rb, rc⟩, ⟨oa, on, oc⟩, ⟨ka, kn, kc⟩⟩) :=
 ⟨set12_bel hb hz, kd, xn, fl, tx, la, lb, lc, ra, rb, rc, oa, on, oc, ka, kn, kc, rfl, (hx.set12 fun b h e => by rw [e] at h; exact Nat.lt_irrefl _ h.1).mono fun b h => ⟨Nat.le_trans hz (Nat.le_of_lt h.1), by rw [set12_size]; exact h.2⟩⟩
theorem pcanonw_yes (t : Nd) (hg : goodN t = true) (w : World) (F : Nat → Prop) (x : NV) (ea : List Addr) (ei : Nat) (hx : NdR w F x t) (hbk : bkN t ≤ 900000000000) (hA : AskEnv w) (hE : ErrAt w 0 (errI ea ei)) :
  Calls Tryd.prog 16 #[x.val] w (TrE2 (canonN t) .nilIface w) := by
 have HA := LH hA; have HE := LH hE; have HX := LH hx
 clear hA hE hx
 obtain ⟨kd, fl, tx, xn, ⟨la, lb, lc⟩, ⟨ra, rb, rc⟩, ⟨oa, on, oc⟩, ⟨ka, kn, kc⟩⟩ := x
 have HB1 := LH (((Below.refl w.heap.size w).alloc (Nat.le_refl _) (.cells #[.int .i64 kd, .string (str fl), .string (str tx), .int .i64 xn, .bool la, .bool lb, .string (str lc), .bool ra, .bool rb, .string (str rc), .slice oa on oc, .slice ka kn kc] 27)).alloc (by rw [World.size_alloc]; exact Nat.le_succ _) zO)
 have HN1 := LH ((Blk.new w 27 #[.int .i64 kd, .string (str fl), .string (str tx), .int .i64 xn, .bool la, .bool lb, .string (str lc), .bool ra, .bool rb, .string (str rc), .slice oa on oc, .slice ka kn kc]).alloc zO)
 have HZ1 := LH (show Blk ((w.alloc (.cells #[.int .i64 kd, .string (str fl), .string (str tx), .int .i64 xn, .bool la, .bool lb, .string (str lc), .bool ra, .bool rb, .string (str rc), .slice oa on oc, .slice ka kn kc] 27)).alloc zO) (w.heap.size + 1) 27 zA from by have h := Blk.new (w.alloc (.cells #[.int .i64 kd, .string (str fl), .string (str tx), .int .i64 xn, .bool la, .bool lb, .string (str lc), .bool ra, .bool rb, .string (str rc), .slice oa on oc, .slice ka kn kc] 27)) 27 zA; rw [World.size_alloc] at h; exact h)
 have HX1 := LH (HX.out.belowW HB1.out)
 have HC := LH (pcheck_any t ((w.alloc (.cells #[.int .i64 kd, .string (str fl), .string (str tx), .int .i64 xn, .bool la, .bool lb, .string (str lc), .bool ra, .bool rb, .string (str rc), .slice oa on oc, .slice ka kn kc] 27)).alloc zO) F _ ea ei HX1.out hbk (HA.out.below HB1.out) (HE.out.below HE.out.2 HB1.out))
 have HK := LH (fun (W : World) (hW : NdR W F ⟨kd, fl, tx, xn, ⟨la, lb, lc⟩, ⟨ra, rb, rc⟩, ⟨oa, on, oc⟩, ⟨ka, kn, kc⟩⟩ t) => pcanon_any t W F _ hW hbk hg)
 unfold NV.val at HC HK ⊢
 simp only [] at HC HK
 go_enter Tryd.func16, Tryd.ntmps16
 go_wp2_with fail
 generalize ((w.alloc (.cells #[.int .i64 kd, .string (str fl), .string (str tx), .int .i64 xn, .bool la, .bool lb, .string (str lc), .bool ra, .bool rb, .string (str rc), .slice oa on oc, .slice ka kn kc] 27)).alloc zO) = w1 at *
 have hn := HN1.out
 have nzz := HN1.out
 obtain ⟨n0, n1, n2, n3, n4, n5, n6, n7, n8, n9, n10, n11, -, -, -, -, -, -, -, -, -, -, -, -, ln⟩ := blk12 nzz; (try simp only [World.size_alloc] at ln)
 clear nzz
 refine HC.out.mono ?_
 rintro e w2 h
 obtain ⟨hb2, rfl⟩ := h.iyes hg
 have HB2 := LH (HB1.out.trans (hb2.mono HB1.out.size))
 have HN2 := LH (HN1.out.belowW hb2)
 have HZ2 := LH (HZ1.out.belowW hb2)
 have HX2 := LH (HX1.out.belowW hb2)
 clear hb2 h n0 n1 n2 n3 n4 n5 n6 n7 n8 n9 n10 n11 ln hn
 have nzz := HN2.out
 obtain ⟨n0, n1, n2, n3, n4, n5, n6, n7, n8, n9, n10, n11, -, -, -, -, -, -, -, -, -, -, -, -, ln⟩ := blk12 nzz; (try simp only [World.size_alloc] at ln)
 clear nzz
 have HKK := LH (HK.out w2 HX2.out)
 go_wp2_with fail
 refine HKK.out.mono ?_
 rintro e w3 ⟨hb3, kq, nq, fq, tq, aq, bq, cq, dq, eq, gq, oq, pq, qq, rq, sq, uq, rfl, hy⟩
 have HB3 := LH (HB2.out.trans (hb3.mono HB2.out.size))
 have HZ3 := LH (HZ2.out.belowW hb3)
 have hz2 := HZ2.out.lt
 have HY3 := LH (hy.mono (G := fun b => w.heap.size + 1 < b ∧ b < w3.heap.size) (fun b h => ⟨Nat.lt_of_lt_of_le hz2 h.1, h.2⟩))
 clear hb3 hy n0 n1 n2 n3 n4 n5 n6 n7 n8 n9 n10 n11 ln hz2
 have zzz := HZ3.out
 obtain ⟨z0, z1, z2, z3, z4, z5, z6, z7, z8, z9, z10, z11, fz0, fz1, fz2, fz3, fz4, fz5, fz6, fz7, fz8, fz9, fz10, fz11, lz⟩ := blk12 zzz; (try simp only [World.size_alloc] at lz)
 clear zzz
 go_wp2
 refine bodyPost_ret (v := .tuple #[.agg #[.int .i64 kq, .string (str fq), .string (str tq), .int .i64 nq, .bool aq, .bool bq, .string (str cq), .bool dq, .bool eq, .string (str gq), .slice oq pq qq, .slice rq sq uq], .nilIface]) ?_ rfl ?_
 ·simp [results, Tryd.results16, go_sem, NV.val, lz, fz0, fz1, fz2, fz3, fz4, fz5, fz6, fz7, fz8, fz9, fz10, fz11, z0, z1, z2, z3, z4, z5, z6, z7, z8, z9, z10, z11]
 ·exact TrE2.set HB3.out (Nat.le_succ _) HY3.out
theorem PrEnv.env {w w' : World} (h : PrEnv w w.heap.size) (hb : Below w.heap.size w w') : PrEnv w' w'.heap.size :=
 ⟨h.asks.belowB h.h1 hb, h.cls.belowB h.h2 hb, h.pow.belowB h.h3 hb, Nat.lt_of_lt_of_le h.h1 hb.size, Nat.lt_of_lt_of_le h.h2 hb.size, Nat.lt_of_lt_of_le h.h3 hb.size⟩
theorem pprint_yes (t : Nd) (hg : goodN t = true) (w : World) (F : Nat → Prop) (x : NV) (ea : List Addr) (ei : Nat) (hx : NdR w F x t) (hbk : bkN t ≤ 300000000000) (hA : PrEnv w w.heap.size) (hE : ErrAt w 0 (errI ea ei)) :
  Calls Tryd.prog 19 #[x.val] w fun e w' => Below w.heap.size w w' ∧ e = .returned (.tuple #[.string (str (formN (canonN t))), .nilIface]) := by
 have HA := LH hA; have HE := LH hE; have HX := LH hx
 clear hA hE hx
 obtain ⟨kd, fl, tx, xn, ⟨la, lb, lc⟩, ⟨ra, rb, rc⟩, ⟨oa, on, oc⟩, ⟨ka, kn, kc⟩⟩ := x
 have HB1 := LH ((Below.refl w.heap.size w).alloc (Nat.le_refl _) (.cells #[.int .i64 kd, .string (str fl), .string (str tx), .int .i64 xn, .bool la, .bool lb, .string (str lc), .bool ra, .bool rb, .string (str rc), .slice oa on oc, .slice ka kn kc] 27))
 have HN1 := LH (Blk.new w 27 #[.int .i64 kd, .string (str fl), .string (str tx), .int .i64 xn, .bool la, .bool lb, .string (str lc), .bool ra, .bool rb, .string (str rc), .slice oa on oc, .slice ka kn kc])
 have HX1 := LH (HX.out.belowW HB1.out)
 have HC := LH (pcanonw_yes t hg (w.alloc (.cells #[.int .i64 kd, .string (str fl), .string (str tx), .int .i64 xn, .bool la, .bool lb, .string (str lc), .bool ra, .bool rb, .string (str rc), .slice oa on oc, .slice ka kn kc] 27)) F _ ea ei HX1.out (Nat.le_trans hbk (by decide)) (HA.out.env HB1.out).asks (HE.out.below HE.out.2 HB1.out))
 unfold NV.val at HC ⊢
 simp only [] at HC
 go_enter Tryd.func19, Tryd.ntmps19
 go_wp2_with fail
 generalize (w.alloc (.cells #[.int .i64 kd, .string (str fl), .string (str tx), .int .i64 xn, .bool la, .bool lb, .string (str lc), .bool ra, .bool rb, .string (str rc), .slice oa on oc, .slice ka kn kc] 27)) = w1 at *
 have nzz := HN1.out
 obtain ⟨n0, n1, n2, n3, n4, n5, n6, n7, n8, n9, n10, n11, -, -, -, -, -, -, -, -, -, -, -, -, ln⟩ := blk12 nzz; (try simp only [World.size_alloc] at ln)
 clear nzz
 refine HC.out.mono ?_
 rintro e w2 ⟨hb2, kq, nq, fq, tq, aq, bq, cq, dq, eq, gq, oq, pq, qq, rq, sq, uq, rfl, hy⟩
 have HB2 := LH (HB1.out.trans (hb2.mono HB1.out.size))
 have HB3 := LH ((Below.refl w2.heap.size w2).alloc (Nat.le_refl _) (.cells #[.int .i64 kq, .string (str fq), .string (str tq), .int .i64 nq, .bool aq, .bool bq, .string (str cq), .bool dq, .bool eq, .string (str gq), .slice oq pq qq, .slice rq sq uq] 27))
 have HBW := LH (HB2.out.trans (HB3.out.mono HB2.out.size))
 have HZ3 := LH (Blk.new w2 27 #[.int .i64 kq, .string (str fq), .string (str tq), .int .i64 nq, .bool aq, .bool bq, .string (str cq), .bool dq, .bool eq, .string (str gq), .slice oq pq qq, .slice rq sq uq])
 have HY := LH ((hy.belowW HB3.out))
 have HSZ := LH (show w2.heap.size + 1 = (w2.alloc (.cells #[.int .i64 kq, .string (str fq), .string (str tq), .int .i64 nq, .bool aq, .bool bq, .string (str cq), .bool dq, .bool eq, .string (str gq), .slice oq pq qq, .slice rq sq uq] 27)).heap.size from (World.size_alloc ..).symm)
 have HF := LH (form_any (canonN t) (w2.alloc (.cells #[.int .i64 kq, .string (str fq), .string (str tq), .int .i64 nq, .bool aq, .bool bq, .string (str cq), .bool dq, .bool eq, .string (str gq), .slice oq pq qq, .slice rq sq uq] 27)) (w2.alloc (.cells #[.int .i64 kq, .string (str fq), .string (str tq), .int .i64 nq, .bool aq, .bool bq, .string (str cq), .bool dq, .bool eq, .string (str gq), .slice oq pq qq, .slice rq sq uq] 27)).heap.size _ (.slice none 0 0) [] ((hy.belowW HB3.out).mono (G := fun b => b < (w2.alloc (.cells #[.int .i64 kq, .string (str fq), .string (str tq), .int .i64 nq, .bool aq, .bool bq, .string (str cq), .bool dq, .bool eq, .string (str gq), .slice oq pq qq, .slice rq sq uq] 27)).heap.size) fun b h => by rw [World.size_alloc]; exact Nat.lt_succ_of_lt h.2) (Nat.le_trans (canon_bk t) hbk) (canon_good t hg) (HA.out.env HBW.out) (OwnB.nil _ _) (Nat.le_refl _) (by
  have h1 := form_len (canonN t) (canon_good t hg)
  have h2 := size_bk (canonN t)
  have h3 := canon_bk t
  rw [List.length_nil]; omega))
 unfold NV.val at HF
 simp only [List.nil_append] at HF
 clear hb2 hy n0 n1 n2 n3 n4 n5 n6 n7 n8 n9 n10 n11 ln
 have zzz := HZ3.out
 obtain ⟨z0, z1, z2, z3, z4, z5, z6, z7, z8, z9, z10, z11, -, -, -, -, -, -, -, -, -, -, -, -, lz⟩ := blk12 zzz; (try simp only [World.size_alloc] at lz)
 clear zzz
 go_wp2_with fail
 generalize hw3 : (w2.alloc (.cells #[.int .i64 kq, .string (str fq), .string (str tq), .int .i64 nq, .bool aq, .bool bq, .string (str cq), .bool dq, .bool eq, .string (str gq), .slice oq pq qq, .slice rq sq uq] 27)) = w3 at *
 refine HF.out.mono ?_
 rintro e w4 ⟨v, rfl, ho, hb4, -⟩
 have hcv := ho.conv
 have HB4 := LH (HBW.out.trans (hb4.mono HBW.out.size))
 clear ho hb4
 go_wp2
 refine bodyPost_ret (v := .tuple #[.string (str (formN (canonN t))), .nilIface]) ?_ rfl ?_
 ·simp [results, Tryd.results19, go_sem]
 ·exact ⟨HB4.out, rfl⟩
theorem pnestw_yes (t : Nd) (hg : goodN t = true) (w : World) (F : Nat → Prop) (x : NV) (ea : List Addr) (ei : Nat) (hx : NdR w F x t) (hbk : bkN t ≤ 900000000000) (hA : PrEnv w w.heap.size) (hE : ErrAt w 0 (errI ea ei)) :
  Calls Tryd.prog 20 #[x.val] w fun e w' => Below w.heap.size w w' ∧ e = .returned (.tuple #[.int .i64 (nestN (canonN t) : Int), .nilIface]) := by
 have HA := LH hA; have HE := LH hE; have HX := LH hx
 clear hA hE hx
 obtain ⟨kd, fl, tx, xn, ⟨la, lb, lc⟩, ⟨ra, rb, rc⟩, ⟨oa, on, oc⟩, ⟨ka, kn, kc⟩⟩ := x
 have HB1 := LH ((Below.refl w.heap.size w).alloc (Nat.le_refl _) (.cells #[.int .i64 kd, .string (str fl), .string (str tx), .int .i64 xn, .bool la, .bool lb, .string (str lc), .bool ra, .bool rb, .string (str rc), .slice oa on oc, .slice ka kn kc] 27))
 have HN1 := LH (Blk.new w 27 #[.int .i64 kd, .string (str fl), .string (str tx), .int .i64 xn, .bool la, .bool lb, .string (str lc), .bool ra, .bool rb, .string (str rc), .slice oa on oc, .slice ka kn kc])
 have HX1 := LH (HX.out.belowW HB1.out)
 have HC := LH (pcanonw_yes t hg (w.alloc (.cells #[.int .i64 kd, .string (str fl), .string (str tx), .int .i64 xn, .bool la, .bool lb, .string (str lc), .bool ra, .bool rb, .string (str rc), .slice oa on oc, .slice ka kn kc] 27)) F _ ea ei HX1.out (Nat.le_trans hbk (by decide)) (HA.out.env HB1.out).asks (HE.out.below HE.out.2 HB1.out))
 unfold NV.val at HC ⊢
 simp only [] at HC
 go_enter Tryd.func20, Tryd.ntmps20
 go_wp2_with fail
 generalize (w.alloc (.cells #[.int .i64 kd, .string (str fl), .string (str tx), .int .i64 xn, .bool la, .bool lb, .string (str lc), .bool ra, .bool rb, .string (str rc), .slice oa on oc, .slice ka kn kc] 27)) = w1 at *
 have nzz := HN1.out
 obtain ⟨n0, n1, n2, n3, n4, n5, n6, n7, n8, n9, n10, n11, -, -, -, -, -, -, -, -, -, -, -, -, ln⟩ := blk12 nzz; (try simp only [World.size_alloc] at ln)
 clear nzz
 refine HC.out.mono ?_
 rintro e w2 ⟨hb2, kq, nq, fq, tq, aq, bq, cq, dq, eq, gq, oq, pq, qq, rq, sq, uq, rfl, hy⟩
 have HB2 := LH (HB1.out.trans (hb2.mono HB1.out.size))
 have HB3 := LH ((Below.refl w2.heap.size w2).alloc (Nat.le_refl _) (.cells #[.int .i64 kq, .string (str fq), .string (str tq), .int .i64 nq, .bool aq, .bool bq, .string (str cq), .bool dq, .bool eq, .string (str gq), .slice oq pq qq, .slice rq sq uq] 27))
 have HBW := LH (HB2.out.trans (HB3.out.mono HB2.out.size))
 have HZ3 := LH (Blk.new w2 27 #[.int .i64 kq, .string (str fq), .string (str tq), .int .i64 nq, .bool aq, .bool bq, .string (str cq), .bool dq, .bool eq, .string (str gq), .slice oq pq qq, .slice rq sq uq])
 have HY := LH ((hy.belowW HB3.out))
 have HF := LH (pnest_any (canonN t) (w2.alloc (.cells #[.int .i64 kq, .string (str fq), .string (str tq), .int .i64 nq, .bool aq, .bool bq, .string (str cq), .bool dq, .bool eq, .string (str gq), .slice oq pq qq, .slice rq sq uq] 27)) _ _ (hy.belowW HB3.out) (Nat.le_trans (canon_bk t) hbk) (canon_good t hg) (HA.out.env HBW.out).asks)
 unfold NV.val at HF
 simp only [] at HF
 clear hb2 hy n0 n1 n2 n3 n4 n5 n6 n7 n8 n9 n10 n11 ln
 have zzz := HZ3.out
 obtain ⟨z0, z1, z2, z3, z4, z5, z6, z7, z8, z9, z10, z11, -, -, -, -, -, -, -, -, -, -, -, -, lz⟩ := blk12 zzz; (try simp only [World.size_alloc] at lz)
 clear zzz
 go_wp2_with fail
 generalize hw3 : (w2.alloc (.cells #[.int .i64 kq, .string (str fq), .string (str tq), .int .i64 nq, .bool aq, .bool bq, .string (str cq), .bool dq, .bool eq, .string (str gq), .slice oq pq qq, .slice rq sq uq] 27)) = w3 at *
 refine HF.out.mono ?_
 rintro e w4 ⟨rfl, hb4⟩
 have HB4 := LH (HBW.out.trans (hb4.mono HBW.out.size))
 clear hb4
 go_wp2
 refine bodyPost_ret (v := .tuple #[.int .i64 (nestN (canonN t) : Int), .nilIface]) ?_ rfl ?_
 ·simp [results, Tryd.results20, go_sem]
 ·exact ⟨HB4.out, rfl⟩
end Go.Proofs.YthcldpminmhgkaaDoor
end
section
namespace Go.Proofs.YthcldpminmhgkaaDoor
open Go.RowKit Go.ChangeShapes Go.WideShapes Go.Deep
section
variable {H : Type} {enc : TypeId × Value → H} {W : World} {held : Bool}
end
def litV : Lit → Value
 | .bool b => .bool b
 | .int k z => .int k z
 | .string l => .string ⟨l.toArray⟩
 | _ => .nilIface
theorem lits_of_struct {H : Type} {enc : TypeId × Value → H} {w : World} {base : Nat} {sp : Nat → Bool} {held : Bool} {P : Program} {fuel : Nat} {t : TypeId} {fs : Array Field} {cs : List Value} {ls : List Lit} {p : List MemPlace} (ht : P.underlying t = some (.struct fs))
  (hf : ∀ (i : Nat) (f : Field), fs[i]? = some f → (P.underlying f.type = some (.int .i64) ∨ P.underlying f.type = some .bool ∨ P.underlying f.type = some .string) ∧ f.offset = i ∧ P.cellsOf f.type = 1) (hct : P.cellsOf t = fs.size)
  (h : DataW.trod enc P w base sp held fuel t cs = some (.agg (ls.map fun z => .lit z), p)) : cs = ls.map litV := by
 obtain ⟨xs, n, rfl, hx, hl, hxl, hall⟩ := DataW.trod_struct ht h
 have hxs : xs.map (·.1) = ls.map fun z => (DataW.lit z : DataW H) := by
  have := congrArg Prod.fst hx
  simpa using this.symm
 have hzl : ls.length = fs.size := by
  have := congrArg List.length hxs
  simp at this
  omega
 apply List.ext_getElem?
 intro i
 by_cases hi : i < fs.size
 ·obtain ⟨hu, ho, hc⟩ := hf i fs[i] (by simp [hi])
  have h1 := hall i fs[i] (by simp [hi])
  obtain ⟨b, hb⟩ : ∃ b, xs[i]? = some b := ⟨xs[i]'(by omega), List.getElem?_eq_getElem (by omega)⟩
  rw [hb, ho, hc] at h1
  have h3 : (xs.map (·.1))[i]? = some b.1 := by simp [hb]
  rw [hxs] at h3
  simp only [List.getElem?_map, Option.map_eq_some_iff] at h3
  obtain ⟨z', hz', e⟩ := h3
  rw [List.getElem?_map, hz']
  have hcs : ∀ v, (cs.drop i).take 1 = [v] → cs[i]? = some v := fun v hv => by
   have := congrArg (·[0]?) hv
   simpa [List.getElem?_take, List.getElem?_drop] using this
  rcases hu with hu | hu | hu
  ·obtain ⟨z, hcz, rfl, _⟩ := DataW.trod_int hu h1
   injection e with e
   subst e
   exact hcs _ hcz
  ·obtain ⟨z, hcz, rfl⟩ := DataW.trod_bool hu h1
   injection e with e
   subst e
   exact hcs _ hcz
  ·obtain ⟨z, hcz, rfl, _⟩ := DataW.trod_string hu h1
   injection e with e
   subst e
   rw [hcs _ hcz]; rfl
 ·rw [List.getElem?_eq_none (by omega), List.getElem?_eq_none (by simp; omega)]
def askRow (f t : Bool) (lo hi : Int) (en oc : Bool) (le mo lv : Int) (s : List UInt8) : List Lit := [.bool f, .bool t, .int .i64 lo, .int .i64 hi, .bool en, .bool oc, .int .i64 le, .int .i64 mo, .int .i64 lv, .string s]
def askRows : List (List Lit) := [askRow false false 0 0 false false 0 0 0 [], askRow true true 0 0 false false 0 0 6 [], askRow true true 0 999999999 false false 0 0 6 [], askRow true true 0 0 false false 0 0 6 [], askRow true true 0 0 false false 0 0 6 [], askRow true true 1 2 false false 0 0 6 [], askRow true false 0 0 true false 0 0 6 [], askRow true false 0 0 false false 0 0 6 [],
 askRow false false 0 0 false false 0 0 6 [], askRow false false 0 999999999 false true 1 (-1) 0 [], askRow false false 0 0 false false 1 (-1) 2 [32, 65, 78, 68, 32], askRow false false 0 0 false false 1 (-1) 1 [32, 79, 82, 32], askRow false false 0 0 false false 1 (-1) 3 [32, 124, 32], askRow false false 0 0 false false 1 1 4 [], askRow false false 0 999999999 false false 1 1 5 [94], askRow false false 0 999999999 false false 1 1 5 [94, 61]]
theorem gAsk : Tryd.prog.globalNamed "concord/printer.asks" = some 17 := by kernel_rfl
theorem gAskType : (Tryd.prog.globals[17]?).map (·.type) = some 93 := by kernel_rfl
theorem askFieldsT : ((Tryd.prog.fieldsOf 92).map (fun f => (f.type, f.offset))).toList = [(4, 0), (4, 1), (3, 2), (3, 3), (4, 4), (4, 5), (3, 6), (3, 7), (3, 8), (9, 9)] := by kernel_rfl
theorem askStruct : Tryd.prog.underlying 92 = some (.struct (Tryd.prog.fieldsOf 92)) := by kernel_rfl
theorem askArr : Tryd.prog.underlying 93 = some (.array 16 92) := by kernel_rfl
theorem askFs (i : Nat) (f : Field) (h : (Tryd.prog.fieldsOf 92)[i]? = some f) : (Tryd.prog.underlying f.type = some (.int .i64) ∨ Tryd.prog.underlying f.type = some .bool ∨ Tryd.prog.underlying f.type = some .string) ∧ f.offset = i ∧ Tryd.prog.cellsOf f.type = 1 := by
 have h2 : ((Tryd.prog.fieldsOf 92).map (fun f => (f.type, f.offset))).toList[i]? = some (f.type, f.offset) := by
  rw [Array.getElem?_toList, Array.getElem?_map, h]; rfl
 rw [askFieldsT] at h2
 match i, h2 with
 | 0, h2 | 1, h2 | 4, h2 | 5, h2 =>
  injection h2 with h2
  injection h2 with e1 e2
  rw [← e1, ← e2]
  exact ⟨.inr (.inl Tryd.underlying4), rfl, by kernel_rfl⟩
 | 2, h2 | 3, h2 | 6, h2 | 7, h2 | 8, h2 =>
  injection h2 with h2
  injection h2 with e1 e2
  rw [← e1, ← e2]
  exact ⟨.inl Tryd.underlying3, rfl, by kernel_rfl⟩
 | 9, h2 =>
  injection h2 with h2
  injection h2 with e1 e2
  rw [← e1, ← e2]
  exact ⟨.inr (.inr Tryd.underlying9), rfl, by kernel_rfl⟩
 | i + 10, h2 => simp at h2
theorem askL_at : ∀ i : Nat, i < 16 → ∀ j : Nat, j < 10 → askL[i * 10 + j]? = ((askRows.getD i []).map litV)[j]? := by
 intro i hi j hj
 match i, hi with
 | 0, _ | 1, _ | 2, _ | 3, _ | 4, _ | 5, _ | 6, _ | 7, _ | 8, _ | 9, _ | 10, _ | 11, _ | 12, _ | 13, _ | 14, _ | 15, _ =>
  match j, hj with
  | 0, _ | 1, _ | 2, _ | 3, _ | 4, _ | 5, _ | 6, _ | 7, _ | 8, _ | 9, _ => rfl
  | j + 10, h => exact absurd h (by omega)
 | i + 16, h => exact absurd h (by omega)
theorem ask_of_head {W : World} {rest : List (String × DataW Unit)} (h : laidMet Tryd.prog (("concord/printer.asks", .agg (askRows.map fun r => .agg (r.map fun z => .lit z))) :: rest) W) : AskEnv W := by
 obtain ⟨ps, ⟨g', t', cs, fuel, p, q, hg', ht', hvar, hd, _, _⟩, _⟩ := h
 obtain rfl := Option.some.inj (gAsk.symm.trans hg')
 obtain rfl := Option.some.inj (gAskType.symm.trans ht')
 have hc : ∀ j v, askL[j]? = some v → W.cell? ⟨17, j, none⟩ = some v := fun j v hv => by
  have hjl : j < 160 := by have h5 := (List.getElem?_eq_some_iff.1 hv).1; have h6 : askL.length = 160 := rfl; omega
  obtain ⟨i, k, hi, hk, rfl⟩ : ∃ i k, i < 16 ∧ k < 10 ∧ j = i * 10 + k := ⟨j / 10, j % 10, by omega, Nat.mod_lt _ (by decide), by omega⟩
  obtain ⟨fuel', d, q', hdi, he⟩ := Lib.array_elem askArr hd i hi
  have hil : i < askRows.length := hi
  rw [List.getElem?_map, List.getElem?_eq_getElem hil] at hdi
  injection hdi with hdi
  subst hdi
  rw [show Tryd.prog.cellsOf 92 = 10 by kernel_rfl] at he
  have hcs := lits_of_struct askStruct askFs (by kernel_rfl) he
  rw [askL_at i hi k hk, List.getD_eq_getElem?_getD, List.getElem?_eq_getElem hil, Option.getD_some, ← hcs] at hv
  rw [World.var?_cell gAsk hvar, ← Array.getElem?_toList, ← hv]
  rw [List.getElem?_take, List.getElem?_drop, if_pos hk]
 exact ⟨hc, World.block_lt_of_cell? W ⟨17, 0, none⟩ (hc 0 _ rfl)⟩
end Go.Proofs.YthcldpminmhgkaaDoor
end
section
namespace Go.Proofs.YthcldpminmhgkaaDoor
open Go.RowKit
structure LawEnv (w : World) (ea : List Addr) : Prop where
 pr : PrEnv w w.heap.size
 er : ErrEnv w ea
theorem LawEnv.below {w w' : World} {ea : List Addr} (h : LawEnv w ea) (hb : Below w.heap.size w w') : LawEnv w' ea := ⟨h.pr.env hb, h.er.below hb⟩
theorem LawEnv.err {w : World} {ea : List Addr} (h : LawEnv w ea) (i : Nat) (hi : i < 24) : ErrAt w (errGs.getD i 0) (errI ea i) := ⟨h.er.cell i hi, World.block_lt_of_cell? w ⟨errGs.getD i 0, 0, none⟩ (h.er.cell i hi)⟩
theorem LawEnv.node {w : World} {ea : List Addr} (h : LawEnv w ea) : ErrAt w 0 (errI ea 17) := h.err 17 (by decide)
theorem LawEnv.syn {w : World} {ea : List Addr} (h : LawEnv w ea) : ErrAt w 1 (errI ea 15) := h.err 15 (by decide)
theorem LawEnv.deep {w : World} {ea : List Addr} (h : LawEnv w ea) : ErrAt w 18 (errI ea 16) := h.err 16 (by decide)
theorem RdF.row {α : Type} {S : Shape α} {w : World} {F : Nat → Prop} {g : Nat} {T : TypeId} {l : List α} (h : Blk w g T (S.cells l).toArray) (hF : F g) (hl : l.length ≤ 1000) : RdF S w F ⟨some ⟨g, 0, none⟩, l.length, l.length⟩ l := by
 refine ⟨rfl, Nat.le_refl _, (by unfold maxLen; show l.length ≤ _; omega), fun _ => ⟨_, rfl, hF, fun j u hu => ?_⟩, fun h => by cases h⟩
 rw [show (⟨g, 0, none⟩ : Addr).add j = ⟨g, j, none⟩ from by unfold Addr.add; split <;> simp_all, h.cell j]
 simpa using hu
def termN (l : List UInt8) : Nd := .mk 1 [] l 0 bd0 bd0 [] []
def nvTerm (l : List UInt8) : NV := ⟨1, [], l, 0, bd0, bd0, ⟨none, 0, 0⟩, ⟨none, 0, 0⟩⟩
theorem nd_term (w : World) (F : Nat → Prop) (l : List UInt8) : NdR w F (nvTerm l) (termN l) := .mk (RdF.nil _ _ _) (RdF.nil _ _ _) rfl fun i x t hx _ => by simp at hx
theorem term_any (s : ByteArray) (w : World) : Calls Tryd.prog 47 #[.string s] w fun e w' => e = .returned (.agg #[.int .i64 1, .string ⟨#[]⟩, .string s, .int .i64 0, .bool false, .bool false, .string ⟨#[]⟩, .bool false, .bool false, .string ⟨#[]⟩, .slice none 0 0, .slice none 0 0]) ∧ Below w.heap.size w w' := by
 have HB1 := LH ((Below.refl w.heap.size w).alloc (Nat.le_refl _) (.cells #[.int .i64 1, .string ⟨#[]⟩, .string s, .int .i64 0, .bool false, .bool false, .string ⟨#[]⟩, .bool false, .bool false, .string ⟨#[]⟩, .slice none 0 0, .slice none 0 0] 27))
 go_enter Tryd.func47, Tryd.ntmps47
 go_wp2
 refine bodyPost_ret (v := .agg #[.int .i64 1, .string ⟨#[]⟩, .string s, .int .i64 0, .bool false, .bool false, .string ⟨#[]⟩, .bool false, .bool false, .string ⟨#[]⟩, .slice none 0 0, .slice none 0 0]) ?_ rfl ?_
 ·simp [results, Tryd.results47, go_sem, World.cell?_alloc_new]
 ·exact ⟨rfl, HB1.out⟩
end Go.Proofs.YthcldpminmhgkaaDoor
end
