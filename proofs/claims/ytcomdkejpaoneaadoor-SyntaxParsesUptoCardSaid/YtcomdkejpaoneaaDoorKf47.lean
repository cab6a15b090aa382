/- Merged for a claim by shake.py: Dm Dn -/
import Derived.Test.YtcomdkejpaoneaaDoorKfA
import Derived.Test.YtcomdkejpaoneaaDoorKf40
import Derived.Test.YtcomdkejpaoneaaDoorKf46
section
namespace Go.Proofs.YtcomdkejpaoneaaDoor
open Go.RowKit
set_option maxRecDepth 100000
set_option maxHeartbeats 3000000
set_option linter.unusedSimpArgs false
set_option linter.unusedVariables false
theorem nd_listR {w : World} {F : Nat → Prop} {kd xn m : Int} {fl tx : List UInt8} {lo hi : Bd} {so sk : Sl} {l : List (Int × Nd)} (h : NdR w F ⟨kd, fl, tx, xn, lo, hi, so, sk⟩ (ndList m l)) : ∃ nl, RdF folS w F so (l.map (·.1)) ∧ RdF ndS w F sk nl ∧ NdRs w F nl (l.map (·.2)) := by
 unfold ndList at h
 cases h with
 | mk h1 h2 h3 h4 => exact ⟨_, h1, h2, h3, h4⟩
theorem rtree_of (M : Nat) (hW : WhOk M) : TreOk M := by
 intro ts n0 v hD hT hlen w B A k cap f h hB
 have HB1 := LH (show Below w.heap.size w (w.alloc zO) from (Below.refl _ _).alloc (Nat.le_refl _) zO)
 have HR1 := LH (h.belowW hB HB1.out)
 have HZ1 := LH (Blk.new w 36 zA)
 have HSW := LH (show B ≤ (w.alloc zO).heap.size from Nat.le_trans hB HB1.out.size)
 have HSL := LH (show w.heap.size < (w.alloc zO).heap.size from by rw [World.size_alloc]; omega)
 have HWW := LH (fun (W : World) (hR : RdL ltS W B (.slice A k cap) ts) (hS : B ≤ W.heap.size) => hW ts n0 v hD hT hlen W B A k cap f hR hS)
 clear h hB hD hT hlen hW
 go_enter Tryd.func38, Tryd.ntmps38
 go_wp2_with fail
 generalize w.alloc zO = w1 at *
 refine (HWW.out w1 HR1.out HSW.out).mono ?_
 rintro e w5 ⟨hb5, x, t5, rfl, hv, hx⟩
 obtain ⟨kd, fl, tx, xn, ⟨l1, l2, l3⟩, ⟨r1, r2, r3⟩, ⟨oa, on, oc⟩, ⟨ka, kn, kc⟩⟩ := x
 unfold NV.val
 simp only []
 obtain rfl : ndList 0 (v f) = t5 := by injection hv with hv _; injection hv
 have HS5 := LH hb5.size
 have HB6 := LH ((HB1.out.trans (hb5.mono HB1.out.size)).alloc (Nat.le_trans HB1.out.size hb5.size) (.cells #[.int .i64 kd, .string (str fl), .string (str tx), .int .i64 xn, .bool l1, .bool l2, .string (str l3), .bool r1, .bool r2, .string (str r3), .slice oa on oc, .slice ka kn kc] 36))
 have HZ6 := LH ((HZ1.out.below hb5 HSL.out).alloc (.cells #[.int .i64 kd, .string (str fl), .string (str tx), .int .i64 xn, .bool l1, .bool l2, .string (str l3), .bool r1, .bool r2, .string (str r3), .slice oa on oc, .slice ka kn kc] 36))
 have HX6 := LH (show Blk (w5.alloc (.cells #[.int .i64 kd, .string (str fl), .string (str tx), .int .i64 xn, .bool l1, .bool l2, .string (str l3), .bool r1, .bool r2, .string (str r3), .slice oa on oc, .slice ka kn kc] 36)) w5.heap.size 36 #[.int .i64 kd, .string (str fl), .string (str tx), .int .i64 xn, .bool l1, .bool l2, .string (str l3), .bool r1, .bool r2, .string (str r3), .slice oa on oc, .slice ka kn kc] from Blk.new w5 _ _)
 have HG6 := LH (show (w5.alloc (.cells #[.int .i64 kd, .string (str fl), .string (str tx), .int .i64 xn, .bool l1, .bool l2, .string (str l3), .bool r1, .bool r2, .string (str r3), .slice oa on oc, .slice ka kn kc] 36)).heap.size = w5.heap.size + 1 from World.size_alloc _ _)
 have HN6 := LH ((hx.belowW ((Below.refl w5.heap.size w5).alloc (Nat.le_refl _) (.cells #[.int .i64 kd, .string (str fl), .string (str tx), .int .i64 xn, .bool l1, .bool l2, .string (str l3), .bool r1, .bool r2, .string (str r3), .slice oa on oc, .slice ka kn kc] 36))).mono (G := fun b => w.heap.size < b ∧ b < (w5.alloc (.cells #[.int .i64 kd, .string (str fl), .string (str tx), .int .i64 xn, .bool l1, .bool l2, .string (str l3), .bool r1, .bool r2, .string (str r3), .slice oa on oc, .slice ka kn kc] 36)).heap.size) (fun b h => ⟨Nat.lt_of_lt_of_le HSL.out h.1, by rw [HG6.out]; have := h.2; omega⟩))
 clear hb5 hx hv
 go_upto_region 2 with fail
 generalize w5.alloc (.cells #[.int .i64 kd, .string (str fl), .string (str tx), .int .i64 xn, .bool l1, .bool l2, .string (str l3), .bool r1, .bool r2, .string (str r3), .slice oa on oc, .slice ka kn kc] 36) = w6 at *
 obtain ⟨nl, hro, hrk, hrt⟩ := nd_listR HN6.out
 have hlen : nl.length = (v f).length := by rw [hrt.1, List.length_map]
 have hkn : kn = nl.length := hrk.1
 have hon : on = (v f).length := by rw [show on = _ from hro.1, List.length_map]
 have HK := LH hrk; have HO := LH hro; have HN := LH hrt
 clear hro hrk hrt
 have hzz := HX6.out
 obtain ⟨y0, y1, y2, y3, y4, y5, y6, y7, y8, y9, y10, y11, -, -, -, -, -, -, -, -, -, -, -, -, ly⟩ := blk12 hzz
 clear hzz
 have hzz := HZ6.out
 obtain ⟨z0, z1, z2, z3, z4, z5, z6, z7, z8, z9, z10, z11, fz0, fz1, fz2, fz3, fz4, fz5, fz6, fz7, fz8, fz9, fz10, fz11, lz⟩ := blk12 hzz; (try simp only [World.size_alloc] at lz)
 clear hzz
 generalize v f = l at *
 have HFIN := LH (show treeN l = ndList 0 l → RRet [(0, treeN l)] w (.returned (NV.val ⟨kd, fl, tx, xn, ⟨l1, l2, l3⟩, ⟨r1, r2, r3⟩, ⟨oa, on, oc⟩, ⟨ka, kn, kc⟩⟩)) (set12 w6 w.heap.size ⟨kd, fl, tx, xn, ⟨l1, l2, l3⟩, ⟨r1, r2, r3⟩, ⟨oa, on, oc⟩, ⟨ka, kn, kc⟩⟩) from fun hT => by
  rw [hT]
  exact RRet.box HB6.out rfl HN6.out (fun b h => h))
 by_cases h1 : l.length = 1
 ·obtain ⟨⟨oo, x⟩, rfl⟩ := List.length_eq_one_iff.1 h1
  obtain ⟨nv, rfl⟩ := List.length_eq_one_iff.1 hlen
  have hka : kn = 1 := by rw [hkn]; rfl
  have hoa : on = 1 := by rw [hon]; rfl
  subst hka hoa
  have h4 := HO.out.2.2.2.1 (by simp)
  obtain ⟨a, ha, hab, hac⟩ := h4
  simp only [] at ha
  subst ha
  have hoc := hac 0 (.int .i64 oo) (by rfl)
  rw [show a.add 0 = a from by unfold Addr.add; rfl] at hoc
  by_cases ho0 : oo = 0
  ·subst ho0
   obtain ⟨b, hb, hbF, hbl, hc0, hc⟩ := HK.out.nd0
   subst hb
   obtain ⟨qd, qf, qt, qn, ⟨q1, q2, q3⟩, ⟨p1, p2, p3⟩, ⟨sa, sn, sc⟩, ⟨ta, tn, tc⟩⟩ := nv
   have d1 := hc 0 _ rfl; have d2 := hc 1 _ rfl; have d3 := hc 2 _ rfl; have d4 := hc 3 _ rfl; have d5 := hc 4 _ rfl; have d6 := hc 5 _ rfl
   have d7 := hc 6 _ rfl; have d8 := hc 7 _ rfl; have d9 := hc 8 _ rfl; have d10 := hc 9 _ rfl; have d11 := hc 10 _ rfl
   simp only [Nat.zero_add, Nat.reduceAdd] at d1 d2 d3 d4 d5 d6 d7 d8 d9 d10 d11 hc0
   have HR := LH (HN.out.2 0 _ x rfl rfl)
   clear hc hac h1 hlen hkn hon hbF hab
   go_wp2
   refine bodyPost_ret (v := NV.val ⟨qd, qf, qt, qn, ⟨q1, q2, q3⟩, ⟨p1, p2, p3⟩, ⟨sa, sn, sc⟩, ⟨ta, tn, tc⟩⟩) ?_ rfl ?_
   ·simp [results, Tryd.results38, go_sem, NV.val, bd0, str, lz, fz0, fz1, fz2, fz3, fz4, fz5, fz6, fz7, fz8, fz9, fz10, fz11, z0, z1, z2, z3, z4, z5, z6, z7, z8, z9, z10, z11]
   ·exact RRet.box HB6.out rfl HR.out (fun b h => h)
  ·have HT := LH (treeN_ne (l := [(oo, x)]) (fun y h => by injection h with h _; injection h with h _; exact ho0 h))
   have e0 : (oo == 0) = false := by simpa using ho0
   clear hac h1 hlen hkn hon ho0 hab
   go_wp2
   refine bodyPost_ret (v := NV.val ⟨kd, fl, tx, xn, ⟨l1, l2, l3⟩, ⟨r1, r2, r3⟩, ⟨some a, 1, oc⟩, ⟨ka, 1, kc⟩⟩) ?_ rfl ?_
   ·simp [results, Tryd.results38, go_sem, NV.val, bd0, str, lz, fz0, fz1, fz2, fz3, fz4, fz5, fz6, fz7, fz8, fz9, fz10, fz11, z0, z1, z2, z3, z4, z5, z6, z7, z8, z9, z10, z11]
   ·exact HFIN.out HT.out
 ·have HT := LH (treeN_ne (l := l) (fun y h => h1 (by rw [h]; rfl)))
  have e0 : ((kn : Int) == 1) = false := by rw [hkn, hlen]; simp; omega
  clear h1 hlen hkn hon
  go_wp2
  refine bodyPost_ret (v := NV.val ⟨kd, fl, tx, xn, ⟨l1, l2, l3⟩, ⟨r1, r2, r3⟩, ⟨oa, on, oc⟩, ⟨ka, kn, kc⟩⟩) ?_ rfl ?_
  ·simp [results, Tryd.results38, go_sem, NV.val, bd0, str, lz, fz0, fz1, fz2, fz3, fz4, fz5, fz6, fz7, fz8, fz9, fz10, fz11, z0, z1, z2, z3, z4, z5, z6, z7, z8, z9, z10, z11]
  ·exact HFIN.out HT.out
theorem atm_body {M : Nat} (hM : M ≤ 100000000) (hA : AtmOk M) (hT : TreOk M) (hW : WhOk M) {A : List Lt} {n : Nat} {v : Vl} (hD : D .body A n v) (hK : TnOk A) (hlen : A.length < M + 1) (w : World) (B : Nat) (a : Option Addr) (k cap : Nat) (f : List UInt8) (h : RdL ltS w B (.slice a k cap) A) (hB : B ≤ w.heap.size) :
  Calls Tryd.prog 103 #[.slice a k cap, .string (str f)] w (RRet (v f) w) := by
 cases hD with
 | leafB hL =>
  cases hL with
  | @word t h1 => exact ratom_one1 t _ w B a k cap f h hB h1 (fun W k2 cap A hR hS => rleaf_word t W B A k2 cap hR hS f h1)
  | @edits t u h1 h2 h3 =>
   by_cases hn : u.n < 0
   ·rw [if_pos hn]
    exact ratom_two1 t u _ w B a k cap f h hB h1 h2 (fun W k2 cap A hR hS => rleaf_editsN t u W B A k2 cap hR hS f h1 hn)
   ·rw [if_neg hn]
    exact ratom_two1 t u _ w B a k cap f h hB h1 h2 (fun W k2 cap A hR hS => rleaf_editsP t u W B A k2 cap hR hS f h1 hn)
  | @pat t h1 => exact ratom_one2 t _ w B a k cap f h hB h1 (fun W k2 cap A hR hS => rleaf_pat t W B A k2 cap hR hS f h1 (hK t List.mem_cons_self).1)
  | @quo t h1 => exact ratom_one3 t _ w B a k cap f h hB h1 (fun W k2 cap A hR hS => rleaf_quo t W B A k2 cap hR hS f h1)
  | @slop t u h1 h2 h3 => exact ratom_two3 t u _ w B a k cap f h hB h1 h2 (fun W k2 cap A hR hS => rleaf_slop t u W B A k2 cap hR hS f h1)
  | @span a_ b_ c_ d_ e_ h1 h2 h3 h4 h5 =>
   obtain ⟨k1, x1, n1, a1, e1⟩ := b_
   obtain ⟨k3, x3, n3, a3, e3⟩ := d_
   rcases h1 with h1 | h1 <;> rcases h5 with h5 | h5
   ·rw [show decide (a_.kind = 10) = true from by rw [h1]; decide, show decide (e_.kind = 11) = true from by rw [h5]; decide]
    exact ratom_span1011 a_ c_ e_ k1 x1 n1 a1 e1 k3 x3 n3 a3 e3 w B a k cap f h hB h1 h5 h2 h4
   ·rw [show decide (a_.kind = 10) = true from by rw [h1]; decide, show decide (e_.kind = 11) = false from by rw [h5]; decide]
    exact ratom_span1013 a_ c_ e_ k1 x1 n1 a1 e1 k3 x3 n3 a3 e3 w B a k cap f h hB h1 h5 h2 h4
   ·rw [show decide (a_.kind = 10) = false from by rw [h1]; decide, show decide (e_.kind = 11) = true from by rw [h5]; decide]
    exact ratom_span1211 a_ c_ e_ k1 x1 n1 a1 e1 k3 x3 n3 a3 e3 w B a k cap f h hB h1 h5 h2 h4
   ·rw [show decide (a_.kind = 10) = false from by rw [h1]; decide, show decide (e_.kind = 11) = false from by rw [h5]; decide]
    exact ratom_span1213 a_ c_ e_ k1 x1 n1 a1 e1 k3 x3 n3 a3 e3 w B a k cap f h hB h1 h5 h2 h4
 | groupB hG =>
  cases hG with
  | @group o_ c_ A0 n0 v0 h1 hD0 h3 =>
   obtain ⟨⟨t0, r0, hA0, hb0⟩, _⟩ := hD0.okk
   have hl0 : A0.length < M := by simp at hlen; omega
   exact ratom_group o_ c_ A0 n0 v0 M w B a k cap f h hB hD0 (hK.sub (fun x hx => List.mem_cons_of_mem _ (List.mem_append_left _ hx))) hl0 hT h1 (by omega) t0 r0 hA0 (by unfold begT at hb0; omega) h3
  | @least o_ c_ l_ A0 n0 v0 h1 hD0 h3 h4 =>
   obtain ⟨⟨t0, r0, hA0, hb0⟩, _⟩ := hD0.okk
   have hl0 : A0.length < M := by simp at hlen; omega
   have hK0 : TnOk A0 := hK.sub (fun x hx => List.mem_cons_of_mem _ (List.mem_append_left _ hx))
   have hl4 : 0 ≤ l_.n := (hK l_ (by simp)).2 h4
   by_cases hn : l_.n = 0
   ·have e : (if 0 < l_.n then ndList l_.n (v0 f) else treeN (v0 f)) = treeN (v0 f) := if_neg (by omega)
    show Calls _ _ _ _ (RRet [(0, if 0 < l_.n then ndList l_.n (v0 f) else treeN (v0 f))] w)
    rw [e]
    exact ratom_least0 o_ c_ l_ A0 n0 v0 M w B a k cap f h hB hD0 hK0 hl0 hT h1 (by omega) t0 r0 hA0 (by unfold begT at hb0; omega) h3 h4 hn
   ·have e : (if 0 < l_.n then ndList l_.n (v0 f) else treeN (v0 f)) = ndList l_.n (v0 f) := if_pos (by omega)
    show Calls _ _ _ _ (RRet [(0, if 0 < l_.n then ndList l_.n (v0 f) else treeN (v0 f))] w)
    rw [e]
    exact ratom_leastN o_ c_ l_ A0 n0 v0 M w B a k cap f h hB hD0 hK0 hl0 hW h1 (by omega) t0 r0 hA0 (by unfold begT at hb0; omega) h3 h4 hn
theorem atm_step {M : Nat} (hM : M ≤ 100000000) (hA : AtmOk M) (hT : TreOk M) (hW : WhOk M) : AtmOk (M + 1) := by
 intro A n v hD hK hlen w B a k cap f h hB
 cases hD with
 | bodyA hb => exact atm_body hM hA hT hW hb hK hlen w B a k cap f h hB
 | @field w_ c_ A0 _ v0 h1 h2 hb =>
  exact ratom_field w_ c_ A0 _ v0 M w B a k cap f h hB (.bodyA hb) (hK.sub (fun x hx => List.mem_cons_of_mem _ (List.mem_cons_of_mem _ hx))) (by simp at hlen; omega) hA h1 h2 (by simp at hlen; omega)
 | @all s_ c_ t_ h1 h2 h3 => exact ratom_all s_ c_ t_ w B a k cap f h hB (by simp [starT] at h1; exact h1.1) h2
theorem rd_all : ∀ M : Nat, M ≤ 100000000 → AtmOk M ∧ NegOk M ∧ WhOk M ∧ TreOk M
 | 0, _ => ⟨fun A n v _ _ h => absurd h (Nat.not_lt_zero _), fun A n v _ _ h => absurd h (Nat.not_lt_zero _), fun A n v _ _ h => absurd h (Nat.not_lt_zero _), fun A n v _ _ h => absurd h (Nat.not_lt_zero _)⟩
 | M + 1, hM => by
  obtain ⟨hA, hN, hW, hT⟩ := rd_all M (by omega)
  have hA2 := atm_step (by omega) hA hT hW
  have hN2 := neg_step (by omega) hA2 hN
  have hJ17 : JmOk (M + 1) := rjoin_17 (M + 1) hM hN2
  have hJ4 : JaOk (M + 1) := rjoin_4 (M + 1) hM hJ17
  have hJ5 : JoOk (M + 1) := rjoin_5 (M + 1) hM hJ4
  have hW2 := rwhole_of (M + 1) hM hJ5 hN2
  exact ⟨hA2, hN2, hW2, rtree_of (M + 1) hW2⟩
end Go.Proofs.YtcomdkejpaoneaaDoor
end
section
namespace Go.Proofs.YtcomdkejpaoneaaDoor
open Go.RowKit
set_option maxRecDepth 100000
set_option maxHeartbeats 600000
set_option linter.unusedSimpArgs false
set_option linter.unusedVariables false
theorem tok_least {l : List UInt8} {k : Tk} (h : tokOf l = some k) : k.kind = 21 → 0 ≤ k.n := by
 cases l with
 | nil => simp [tokOf] at h
 | cons c t =>
  rw [tokOf] at h
  have hnum : ∀ {a : Int} {z : List UInt8} {n : Nat} {k : Tk}, numTk a z n = some k → 0 ≤ k.n := by
   intro a z n k hk
   unfold numTk at hk
   split at hk
   ·injection hk with hk; rw [← hk]; exact Int.natCast_nonneg _
   ·cases hk
  split at h
  ·injection h with h; rw [← h]; intro _; exact Int.le_refl _
  split at h
  ·obtain ⟨x, hx, rfl⟩ := Option.map_eq_some_iff.1 h
   intro _; exact Int.le_refl _
  split at h
  ·split at h <;> (intro _; exact hnum h)
  split at h
  ·split at h
   ·injection h with h; rw [← h]; intro h2; simp at h2
   ·intro _; exact hnum h
  split at h
  ·intro _; exact hnum h
  unfold runTk at h
  obtain ⟨x, hx, rfl⟩ := Option.map_eq_some_iff.1 h
  intro _
  split <;> exact Int.le_refl _
theorem scanF_least {f : Nat} {l : List UInt8} {i : Nat} {la : List Lx} (h : scanF f l i = (la, none)) :
  ∀ x ∈ la, x.kind = 21 → 0 ≤ x.n := by
 induction f generalizing l i la with
 | zero => simp [scanF] at h
 | succ f ih =>
  cases l with
  | nil =>
   simp only [scanF, Prod.mk.injEq] at h
   rw [← h.1]
   intro x hx
   rw [List.mem_singleton] at hx
   subst hx
   intro h; simp at h
  | cons c t =>
   rw [scanF] at h
   split at h
   ·exact ih h
   ·split at h
    ·cases h
    ·rename_i k ht
     rcases hr : scanF f ((c :: t).drop k.len) (i + k.len) with ⟨u, _ | z⟩
     ·rw [hr] at h
      simp only [ahead, List.singleton_append, Prod.mk.injEq, and_true] at h
      rw [← h]
      intro x hx
      rw [List.mem_cons] at hx
      rcases hx with rfl | hx
      ·exact tok_least ht
      ·exact ih hr x hx
     ·rw [hr] at h
      simp [ahead] at h
theorem scan_tn {l : List UInt8} {la : List Lx} (h : scanL l = (la, none)) (hl : l.length ≤ 10000000) {A : List Lt} {e : Lt} (hA : la.map Lx.lt = A ++ [e]) : TnOk A := by
 have h1 := scan_tkok h hl
 intro t ht
 have hm : t ∈ la.map Lx.lt := by rw [hA]; exact List.mem_append_left _ ht
 refine ⟨(h1.2 t hm).2, ?_⟩
 obtain ⟨x, hx, rfl⟩ := List.mem_map.1 hm
 exact scanF_least h x hx
def RParRet (t : Nd) (w : World) (e : Ending) (w' : World) : Prop :=
 Below w.heap.size w w' ∧ ∃ x : NV, e = .returned (.tuple #[x.val, .int .i64 0, .int .i64 0]) ∧ NdR w' (rng w.heap.size w'.heap.size) x t
theorem rparse_bad (s : ByteArray) (w : World) (hs : s.size ≤ 10000000) (p : Nat) (hc : checkS s.data.toList = .inr p) :
  Calls Tryd.prog 19 #[.string s] w (fun e w' => Below w.heap.size w w' ∧ e = .returned (.tuple #[.agg nv0, .int .i64 (p : Int), .int .i64 16])) := by
 have HB1 := LH (show Below w.heap.size w (w.alloc zO) from (Below.refl _ _).alloc (Nat.le_refl _) zO)
 have HZ1 := LH (Blk.new w 36 zA)
 have HSL := LH (show w.heap.size < (w.alloc zO).heap.size from by rw [World.size_alloc]; omega)
 have HSC := LH (fun W => rscanned_any s W hs)
 have hcnt := scanL_count s.data.toList
 have hsl : s.data.toList.length = s.size := by rw [Array.length_toList]; rfl
 rw [hsl] at hcnt
 go_enter Tryd.func19, Tryd.ntmps19
 go_wp2_with fail
 generalize w.alloc zO = w1 at *
 refine (HSC.out w1).mono ?_
 rintro e w2 ⟨hb2, hm⟩
 have HB2 := LH (HB1.out.trans (hb2.mono HB1.out.size))
 have HZ2 := LH (HZ1.out.below hb2 HSL.out)
 obtain ⟨W2, he⟩ : ∃ u : Unit, e = .returned (.tuple #[.slice none 0 0, .int .i64 (p : Int), .int .i64 16]) := by
  refine ⟨(), ?_⟩
  unfold checkS at hc
  cases hr : scanL s.data.toList with
  | mk la r =>
   rw [hr] at hm hc
   cases r with
   | some q =>
    simp only [] at hm hc
    injection hc with hc
    subst hc; exact hm
   | none =>
    simp only [] at hm hc
    cases hrn : runI mc0 0 (la.map Lx.lt) with
    | inl m => rw [hrn] at hc; cases hc
    | inr i =>
     rw [hrn] at hm hc
     simp only [] at hm hc
     injection hc with hc
     subst hc; exact hm
 subst he
 clear hb2 hm hc
 have hzz := HZ2.out
 obtain ⟨z0, z1, z2, z3, z4, z5, z6, z7, z8, z9, z10, z11, fz0, fz1, fz2, fz3, fz4, fz5, fz6, fz7, fz8, fz9, fz10, fz11, lz⟩ := blk12 hzz; (try simp only [World.size_alloc] at lz)
 clear hzz
 go_wp2
 refine bodyPost_ret (v := .tuple #[.agg nv0, .int .i64 (p : Int), .int .i64 16]) ?_ rfl ?_
 ·simp [results, Tryd.results19, go_sem, nv0, lz, fz0, fz1, fz2, fz3, fz4, fz5, fz6, fz7, fz8, fz9, fz10, fz11, z0, z1, z2, z3, z4, z5, z6, z7, z8, z9, z10, z11]
 ·refine ⟨?_, rfl⟩
  repeat (first | with_reducible exact HB2.out | with_reducible refine Below.setCell ?_ (by show w.heap.size ≤ w.heap.size; exact Nat.le_refl _) _)
theorem rparse_deep (s : ByteArray) (w : World) (hs : s.size ≤ 10000000) (n : Nat) (t : Nd) (h : Der s.data.toList n t) (hn : 64 < n) :
  Calls Tryd.prog 19 #[.string s] w (fun e w' => Below w.heap.size w w' ∧ e = .returned (.tuple #[.agg nv0, .int .i64 0, .int .i64 17])) := by
 have HB1 := LH (show Below w.heap.size w (w.alloc zO) from (Below.refl _ _).alloc (Nat.le_refl _) zO)
 have HZ1 := LH (Blk.new w 36 zA)
 have HSL := LH (show w.heap.size < (w.alloc zO).heap.size from by rw [World.size_alloc]; omega)
 have HSC := LH (fun W => rscanned_any s W hs)
 have hcnt := scanL_count s.data.toList
 have hsl : s.data.toList.length = s.size := by rw [Array.length_toList]; rfl
 rw [hsl] at hcnt
 obtain ⟨la, A0, e0, v, hr, hA, he0, hD, ht⟩ := h.toks
 have hck := h.check
 obtain ⟨m, hrn, hmn⟩ : ∃ m, runI mc0 0 (la.map Lx.lt) = .inl m ∧ m.at_.most = n := by
  unfold checkS at hck
  rw [hr] at hck
  simp only [] at hck
  cases hrn : runI mc0 0 (la.map Lx.lt) with
  | inl m =>
   rw [hrn] at hck
   simp only [] at hck
   injection hck with hck
   exact ⟨m, rfl, hck⟩
  | inr i => rw [hrn] at hck; cases hck
 obtain ⟨TA, TE, TV, hD1, hD2, hD3⟩ := scan_D hr hrn
 obtain ⟨ends, hcl, hnr⟩ := D.nest hD3 hD2 (fun _ => 0)
 rw [← hD1, hmn] at hnr
 rw [← hD1] at hcl
 have HQ := LH hr; have HRN := LH hrn
 have hla : la.length = A0.length + 1 := by
  have := congrArg List.length hA
  simpa using this
 have hcnt2 : la.length ≤ 10000001 := by rw [hr] at hcnt; simp only [] at hcnt; omega
 have HLA := LH hla
 have HCN := LH hcnt2
 clear hla
 go_enter Tryd.func19, Tryd.ntmps19
 go_wp2_with fail
 generalize w.alloc zO = w1 at *
 refine (HSC.out w1).mono ?_
 rintro e w2 ⟨hb2, hm⟩
 have HB2 := LH (HB1.out.trans (hb2.mono HB1.out.size))
 have HZ2 := LH (HZ1.out.below hb2 HSL.out)

 rw [HQ.out] at hm
 simp only [] at hm
 rw [HRN.out] at hm
 obtain ⟨sl, rfl, ho⟩ := hm
 obtain ⟨A, cap, rfl, h1, h2⟩ := ho.form
 rw [List.length_map] at ho ⊢
 have HNE := LH (rnest_any _ (la.map Lx.lt) w2 (RdL.of_own ho) (by rw [List.length_map]; omega) [] ends hcl n hnr)
 have HRD := LH (RdL.of_own ho)
 clear hb2 hr hrn ho hcl hnr hD1 hD2 hD3 hcnt h1 h2
 go_wp2_with fail
 refine HNE.out.mono ?_
 rintro e w3 ⟨rfl, hb3⟩
 have HB3 := LH (HB2.out.trans (hb3.mono HB2.out.size))
 have HZ3 := LH (HZ2.out.below hb3 (by have := HSL.out; have := HZ2.out.lt; omega))
 have HRD3 := LH (HRD.out.below hb3)
 have HLE2 := LH hb3.size
 clear hb3
 have hn3 : decide ((64 : Int) < (n : Int)) = true := decide_eq_true (by omega)
 have hn2 : (64 : Int) < (n : Int) := by omega
 clear hcnt2 hck
 have hzz := HZ3.out
 obtain ⟨z0, z1, z2, z3, z4, z5, z6, z7, z8, z9, z10, z11, fz0, fz1, fz2, fz3, fz4, fz5, fz6, fz7, fz8, fz9, fz10, fz11, lz⟩ := blk12 hzz; (try simp only [World.size_alloc] at lz)
 clear hzz
 go_wp2
 refine bodyPost_ret (v := .tuple #[.agg nv0, .int .i64 0, .int .i64 17]) ?_ rfl ?_
 ·simp [results, Tryd.results19, go_sem, nv0, lz, fz0, fz1, fz2, fz3, fz4, fz5, fz6, fz7, fz8, fz9, fz10, fz11, z0, z1, z2, z3, z4, z5, z6, z7, z8, z9, z10, z11]
 ·refine ⟨?_, rfl⟩
  repeat (first | with_reducible exact HB3.out | with_reducible refine Below.setCell ?_ (by show w.heap.size ≤ w.heap.size; exact Nat.le_refl _) _)
theorem rparse_der (s : ByteArray) (w : World) (hs : s.size ≤ 10000000) (n : Nat) (t : Nd) (h : Der s.data.toList n t) (hn : n ≤ 64) :
  Calls Tryd.prog 19 #[.string s] w (RParRet t w) := by
 have HB1 := LH (show Below w.heap.size w (w.alloc zO) from (Below.refl _ _).alloc (Nat.le_refl _) zO)
 have HZ1 := LH (Blk.new w 36 zA)
 have HSL := LH (show w.heap.size < (w.alloc zO).heap.size from by rw [World.size_alloc]; omega)
 have HSC := LH (fun W => rscanned_any s W hs)
 have hcnt := scanL_count s.data.toList
 have hsl : s.data.toList.length = s.size := by rw [Array.length_toList]; rfl
 rw [hsl] at hcnt
 obtain ⟨la, A0, e0, v, hr, hA, he0, hD, ht⟩ := h.toks
 have hck := h.check
 obtain ⟨m, hrn, hmn⟩ : ∃ m, runI mc0 0 (la.map Lx.lt) = .inl m ∧ m.at_.most = n := by
  unfold checkS at hck
  rw [hr] at hck
  simp only [] at hck
  cases hrn : runI mc0 0 (la.map Lx.lt) with
  | inl m =>
   rw [hrn] at hck
   simp only [] at hck
   injection hck with hck
   exact ⟨m, rfl, hck⟩
  | inr i => rw [hrn] at hck; cases hck
 obtain ⟨TA, TE, TV, hD1, hD2, hD3⟩ := scan_D hr hrn
 obtain ⟨ends, hcl, hnr⟩ := D.nest hD3 hD2 (fun _ => 0)
 rw [← hD1, hmn] at hnr
 rw [← hD1] at hcl
 have HQ := LH hr; have HRN := LH hrn
 have hla : la.length = A0.length + 1 := by
  have := congrArg List.length hA
  simpa using this
 have hcnt2 : la.length ≤ 10000001 := by rw [hr] at hcnt; simp only [] at hcnt; omega
 have HLA := LH hla
 have HCN := LH hcnt2
 clear hla
 have HTN := LH (scan_tn hr (by rw [hsl]; exact hs) hA)
 have HWT := LH ((rd_all 100000000 (Nat.le_refl _)).2.2.2)
 go_enter Tryd.func19, Tryd.ntmps19
 go_wp2_with fail
 generalize w.alloc zO = w1 at *
 refine (HSC.out w1).mono ?_
 rintro e w2 ⟨hb2, hm⟩
 have HB2 := LH (HB1.out.trans (hb2.mono HB1.out.size))
 have HZ2 := LH (HZ1.out.below hb2 HSL.out)

 rw [HQ.out] at hm
 simp only [] at hm
 rw [HRN.out] at hm
 obtain ⟨sl, rfl, ho⟩ := hm
 obtain ⟨A, cap, rfl, h1, h2⟩ := ho.form
 rw [List.length_map] at ho ⊢
 have HNE := LH (rnest_any _ (la.map Lx.lt) w2 (RdL.of_own ho) (by rw [List.length_map]; omega) [] ends hcl n hnr)
 have HRD := LH (RdL.of_own ho)
 clear hb2 hr hrn ho hcl hnr hD1 hD2 hD3 hcnt h1 h2
 go_wp2_with fail
 refine HNE.out.mono ?_
 rintro e w3 ⟨rfl, hb3⟩
 have HB3 := LH (HB2.out.trans (hb3.mono HB2.out.size))
 have HZ3 := LH (HZ2.out.below hb3 (by have := HSL.out; have := HZ2.out.lt; omega))
 have HRD3 := LH (HRD.out.below hb3)
 have HLE2 := LH hb3.size
 clear hb3
 have hn3 : decide ((64 : Int) < (n : Int)) = false := decide_eq_false (by omega)
 have hn2 : ¬ ((64 : Int) < (n : Int)) := by omega
 have hla := HLA.out
 rw [hA, hla] at HRD3
 rw [hla]
 obtain ⟨m2, hm2⟩ : ∃ m2, m2 = A0.length := ⟨_, rfl⟩
 rw [← hm2] at HRD3 ⊢
 have hm8 : m2 ≤ 100000000 := by omega
 obtain ⟨pq, hpr, hrun⟩ := lt_upto HRD3.out (j := m2) (by rw [List.length_append]; omega)
 have HPR := LH (show RdL ltS w3 w2.heap.size (.slice A m2 pq) A0 from by rw [hm2, List.take_left] at hpr; rw [hm2]; exact hpr)
 have HS3 := LH (show w2.heap.size ≤ w3.heap.size from HLE2.out)
 have HTR := LH (HWT.out A0 n v hD HTN.out (by omega) w3 w2.heap.size A m2 pq [] HPR.out HS3.out)
 clear hpr hla hcnt2 hck hm2
 go_wp2_with fail
 rw [show str [] = ⟨#[]⟩ from rfl] at HTR
 refine HTR.out.mono ?_
 rintro e w5 ⟨hb5, x, t5, rfl, hv, hx⟩
 obtain ⟨kd, fl, tx, xn, ⟨l1, l2, l3⟩, ⟨r1, r2, r3⟩, ⟨oa, on, oc⟩, ⟨ka, kn, kc⟩⟩ := x
 unfold NV.val
 simp only []
 have HV := LH (show t = t5 from by rw [ht]; injection hv with hv _; injection hv)
 have HB5 := LH (HB3.out.trans (hb5.mono HB3.out.size))
 have HZ5 := LH (HZ3.out.below hb5 HZ3.out.lt)
 have HX5 := LH (hx.mono (G := fun b => w.heap.size < b ∧ b < w5.heap.size) (fun b h => ⟨Nat.lt_of_lt_of_le HZ3.out.lt h.1, h.2⟩))
 clear hb5 hx hv
 have hzz := HZ5.out
 obtain ⟨z0, z1, z2, z3, z4, z5, z6, z7, z8, z9, z10, z11, fz0, fz1, fz2, fz3, fz4, fz5, fz6, fz7, fz8, fz9, fz10, fz11, lz⟩ := blk12 hzz; (try simp only [World.size_alloc] at lz)
 clear hzz
 go_wp2
 refine bodyPost_ret (v := .tuple #[NV.val ⟨kd, fl, tx, xn, ⟨l1, l2, l3⟩, ⟨r1, r2, r3⟩, ⟨oa, on, oc⟩, ⟨ka, kn, kc⟩⟩, .int .i64 0, .int .i64 0]) ?_ rfl ?_
 ·simp [results, Tryd.results19, go_sem, NV.val, bd0, str, lz, fz0, fz1, fz2, fz3, fz4, fz5, fz6, fz7, fz8, fz9, fz10, fz11, z0, z1, z2, z3, z4, z5, z6, z7, z8, z9, z10, z11]
 ·refine ⟨set12_below (y := ⟨kd, fl, tx, xn, ⟨l1, l2, l3⟩, ⟨r1, r2, r3⟩, ⟨oa, on, oc⟩, ⟨ka, kn, kc⟩⟩) HB5.out (Nat.le_refl _), _, rfl, ?_⟩
  rw [HV.out]
  exact (HX5.out.set12 (y := ⟨kd, fl, tx, xn, ⟨l1, l2, l3⟩, ⟨r1, r2, r3⟩, ⟨oa, on, oc⟩, ⟨ka, kn, kc⟩⟩) (fun b h => by have := h.1; omega)).mono (fun b h => ⟨Nat.le_of_lt h.1, by rw [show (set12 w5 w.heap.size ⟨kd, fl, tx, xn, ⟨l1, l2, l3⟩, ⟨r1, r2, r3⟩, ⟨oa, on, oc⟩, ⟨ka, kn, kc⟩⟩).heap.size = w5.heap.size from set12_size]; exact h.2⟩)
end Go.Proofs.YtcomdkejpaoneaaDoor
end
