/- Merged for a claim by shake.py: Dk -/
import Derived.Test.YtcomdkejpaoneaaDoorKfA
import Derived.Test.YtcomdkejpaoneaaDoorKf44
section
namespace Go.Proofs.YtcomdkejpaoneaaDoor
open Go.RowKit
set_option maxRecDepth 100000
set_option maxHeartbeats 3000000
set_option linter.unusedSimpArgs false
set_option linter.unusedVariables false
theorem at_sl {w : World} {B : Nat} {A : Option Addr} {n cap : Nat} {l : List Sl} (h : OwnL slS w B (.slice A n cap) l) {k : Nat} {s : Sl} (hk : l[k]? = some s) : ∃ a, A = some a ∧ w.cell? (a.add k) = some (.slice s.a s.n s.c) := by
 obtain ⟨hlt, e⟩ := List.getElem?_eq_some_iff.1 hk
 obtain ⟨a, h1, -, h2⟩ := (RdL.of_own h).at_ slOk hlt
 have h3 := h2 0 (.slice s.a s.n s.c) (by decide) (by rw [e]; rfl)
 refine ⟨a, h1, ?_⟩
 have e2 : k * slS.size + 0 = k := by show k * 1 + 0 = k; omega
 rw [e2] at h3
 exact h3
def jnVal (wr : List (Int × Nd) → List (Int × Nd)) (P : List Cl) (f : List UInt8) : List (Int × Nd) := P.flatMap fun x => wr (x.v f)
theorem jnVal_succ {wr : List (Int × Nd) → List (Int × Nd)} {P : List Cl} {i : Nat} {x : Cl} (h : P[i]? = some x) (f : List UInt8) : jnVal wr (P.take (i + 1)) f = jnVal wr (P.take i) f ++ wr (x.v f) := by
 obtain ⟨hi, rfl⟩ := List.getElem?_eq_some_iff.1 h
 rw [List.take_succ_eq_append_getElem hi]
 unfold jnVal
 rw [List.flatMap_append]
 simp
def JnRel (w : World) (B : Nat) (ts : List Lt) (P : List Cl) (wr : List (Int × Nd) → List (Int × Nd)) (f : List UInt8) (sls : List Sl) (rs : List (Nat × Nat)) (sv iv kv : Value) (W : World) : Prop :=
 ∃ (i : Nat) (nl : List NV) (tl : List Nd), iv = .int .i64 (i : Int) ∧ i ≤ P.length ∧ nl.length = i ∧ KA (w.heap.size + 1) W kv nl tl ∧ jnVal wr (P.take i) f = zr tl ∧ OwnL slS W (w.heap.size + 1) sv sls ∧ Pcs W B ts sls rs ∧ Below w.heap.size w W ∧ Blk W w.heap.size 36 zA
def PtOk (fn : Nat) (ex : List Value) (wr : List (Int × Nd) → List (Int × Nd)) (f : List UInt8) (x : Cl) : Prop := ∀ (W : World) (B : Nat) (a : Option Addr) (k cap : Nat), RdL ltS W B (.slice a k cap) x.A → B ≤ W.heap.size →
  Calls Tryd.prog fn (.slice a k cap :: .string (str f) :: ex).toArray W (RRet (wr (x.v f)) W)
theorem rjoin_gen (mark kind : Int) (ts : List Lt) (vf : List (Int × Nd)) (P : List Cl) (rs : List (Nat × Nat)) (gf : List (Int × Nd) → List (Int × Nd)) (f : List UInt8) (hrs : cutI mark 0 0 0 ts = rs) (hP : Parts ts rs P) (hPV : vf = jnVal gf P f) (hPL : P.length ≤ 100000001) (hl : ts.length ≤ 100000000)
  (hc : (mark = 5 ∧ ∀ x ∈ P, (∀ t ∈ x.A, t ∈ ts) → x.A.length ≤ ts.length → PtOk 89 [.int .i64 4, .int .i64 10] gf f x) ∨ (mark = 4 ∧ ∀ x ∈ P, (∀ t ∈ x.A, t ∈ ts) → x.A.length ≤ ts.length → PtOk 89 [.int .i64 17, .int .i64 12] gf f x) ∨ (mark = 17 ∧ ∀ x ∈ P, (∀ t ∈ x.A, t ∈ ts) → x.A.length ≤ ts.length → PtOk 88 [] gf f x))
  (w : World) (B : Nat) (A : Option Addr) (k cap : Nat) (h : RdL ltS w B (.slice A k cap) ts) (hB : B ≤ w.heap.size) :
  Calls Tryd.prog 89 #[.slice A k cap, .string (str f), .int .i64 mark, .int .i64 kind] w (RRet (wrapN kind vf) w) := by
 have HPP := LH hP; have HPV := LH (show vf = jnVal gf P f from hPV)
 have HPL := LH hPL
 have HB1 := LH (show Below w.heap.size w (w.alloc zO) from (Below.refl _ _).alloc (Nat.le_refl _) zO)
 have HB2 := LH (HB1.out.alloc HB1.out.size (.cells #[] 36))
 have HR2 := LH (h.belowW hB HB2.out)
 have HZ2 := LH ((Blk.new w 36 zA).alloc (.cells #[] 36))
 have HSZ := LH (show (w.alloc zO).heap.size = w.heap.size + 1 from World.size_alloc _ _)
 have HSZ2 := LH (show ((w.alloc zO).alloc (.cells #[] 36)).heap.size = w.heap.size + 2 from by rw [World.size_alloc, World.size_alloc])
 have HO2 := LH (show OwnL ndS ((w.alloc zO).alloc (.cells #[] 36)) (w.heap.size + 1) (.slice (some ⟨w.heap.size + 1, 0, none⟩) 0 0) [] from by
  have h := OwnL.lit0 ndS (w.alloc zO) (B := w.heap.size + 1) (by rw [World.size_alloc]; omega)
  rw [World.size_alloc] at h
  exact h)
 have HBW := LH hB
 have HCC := LH (fun (W : World) (hW : RdL ltS W B (.slice A k cap) ts) (hS : B ≤ W.heap.size) => (show Calls Tryd.prog 104 #[.slice A k cap, .int .i64 mark] W (CutRet ts rs B W) from hrs ▸ rcut_any ts mark W B A k cap hW hS hl))
 clear h hB hP hPV hPL hrs
 rcases hc with ⟨rfl, hN⟩ | ⟨rfl, hN⟩ | ⟨rfl, hN⟩
 all_goals
  have HN := LH hN
  clear hN
  go_enter Tryd.func89, Tryd.ntmps89
  go_wp2_with fail
  generalize (w.alloc zO).alloc (.cells #[] 36) = w2 at *
  refine (HCC.out w2 HR2.out (by have := HBW.out; have := HSZ2.out; omega)).mono ?_
  rintro e w3 ⟨hb3, sv, sls, rfl, hs3, hp3⟩
  obtain ⟨SA, sc, rfl, -, -⟩ := hs3.form
  have HSN := LH (show sls.length = P.length from hp3.1.trans HPP.out.len)
  have HJ0 := LH (show JnRel w B ts P gf f sls rs (.slice SA sls.length sc) (.int .i64 0) (.slice (some ⟨w.heap.size + 1, 0, none⟩) 0 0) w3 from
   ⟨0, [], [], rfl, Nat.zero_le _, rfl, ⟨HO2.out.below hb3, NdRs.nil _ _, by have := hb3.size; have := HSZ2.out; omega⟩, rfl, hs3.more (by have := HSZ2.out; omega), hp3, HB2.out.trans (hb3.mono HB2.out.size), HZ2.out.below hb3 (by have := HSZ2.out; omega)⟩)
  rw [HSN.out] at HJ0 ⊢
  clear hb3 hs3 hp3 HO2 HCC HR2 HZ2
  go_wp2
  go_loopw [18, 9] (fun iv kv wr => JnRel w B ts P gf f sls rs (.slice SA P.length sc) iv kv wr) (fun iv _ _ => P.length - (intOf iv).toNat)
  case atStart => exact HJ0.out
  case round =>
   clear HJ0
   obtain ⟨i, nl, tl, rfl, hi, hnl, hka, hval, hsv, hpc, hb, hz⟩ := hrel
   obtain ⟨KA_, KC_, rfl⟩ := hka.form
   have HIR := LH hi; have HNL := LH hnl; have HKA := LH hka; have HVL := LH hval; have HSV := LH hsv; have HPC := LH hpc; have HB := LH hb; have HZ := LH hz
   have HBR := LH (show B ≤ wr.heap.size from Nat.le_trans HBW.out hb.size)
   have HN1 := LH (show w.heap.size < wr.heap.size from hz.lt)
   clear hi hnl hka hval hsv hpc hb hz
   by_cases hlt : i < P.length
   ·obtain ⟨y, hy⟩ : ∃ y, P[i]? = some y := ⟨_, List.getElem?_eq_getElem hlt⟩
    obtain ⟨rr, hr, hpcr, hrl, hyl, hym⟩ := HPP.out.at_ i y hy
    obtain ⟨s, hs⟩ : ∃ s, sls[i]? = some s := ⟨_, List.getElem?_eq_getElem (by rw [HSN.out]; exact hlt)⟩
    have hsr := (HPC.out.2 i s rr hs hr).2
    rw [hpcr] at hsr
    obtain ⟨sa, rfl, hcell⟩ := at_sl HSV.out hs
    have hmem := List.mem_of_getElem? hy
    have HBA := LH (show Below wr.heap.size wr (wr.alloc zO) from (Below.refl _ _).alloc (Nat.le_refl _) zO)
    have HGA := LH (show (wr.alloc zO).heap.size = wr.heap.size + 1 from World.size_alloc _ _)
    have HRA := LH (hsr.belowW HBR.out HBA.out)
    have HZA := LH (Blk.new wr 36 zA)
    have HNN := LH (fun (W : World) (hW : RdL ltS W B (.slice s.a s.n s.c) y.A) (hS : B ≤ W.heap.size) => HN.out y hmem hym hyl W B s.a s.n s.c hW hS)
    have HVS := LH (jnVal_succ (wr := gf) hy f)
    clear hy hr hpcr hrl hyl hym hs hsr hmem
    obtain ⟨s_a, s_n, s_c⟩ := s
    simp only [] at hcell HRA HNN
    go_wp2_with fail
    clear hcell
    generalize wr.alloc zO = wA at *
    refine (HNN.out wA HRA.out (by rw [HGA.out]; have := HBR.out; omega)).mono ?_
    rintro e w7 ⟨hb7, x, t7, rfl, hv, hx⟩
    obtain ⟨kd, fl, tx, xn, ⟨l1, l2, l3⟩, ⟨r1, r2, r3⟩, ⟨oa, on, oc⟩, ⟨ka, kn, kc⟩⟩ := x
    unfold NV.val
    simp only []
    obtain ⟨w8, hw8⟩ : ∃ w8, w8 = (((((((((((w7.setCell ⟨wr.heap.size, 0, none⟩ (.int .i64 kd)).setCell ⟨wr.heap.size, 1, none⟩ (.string (str fl))).setCell ⟨wr.heap.size, 2, none⟩ (.string (str tx))).setCell ⟨wr.heap.size, 3, none⟩ (.int .i64 xn)).setCell ⟨wr.heap.size, 4, none⟩ (.bool l1)).setCell ⟨wr.heap.size, 5, none⟩ (.bool l2)).setCell ⟨wr.heap.size, 6, none⟩ (.string (str l3))).setCell ⟨wr.heap.size, 7, none⟩ (.bool r1)).setCell ⟨wr.heap.size, 8, none⟩ (.bool r2)).setCell ⟨wr.heap.size, 9, none⟩ (.string (str r3))).setCell ⟨wr.heap.size, 10, none⟩ (.slice oa on oc)).setCell ⟨wr.heap.size, 11, none⟩ (.slice ka kn kc) := ⟨_, rfl⟩
    have HB8 := LH (show Below wr.heap.size wr w8 from by rw [hw8]; exact set12_below (y := ⟨kd, fl, tx, xn, ⟨l1, l2, l3⟩, ⟨r1, r2, r3⟩, ⟨oa, on, oc⟩, ⟨ka, kn, kc⟩⟩) (HBA.out.trans (hb7.mono HBA.out.size)) (Nat.le_refl _))
    have HS8 := LH (show w8.heap.size = w7.heap.size from by rw [hw8]; exact set12_size (x := ⟨kd, fl, tx, xn, ⟨l1, l2, l3⟩, ⟨r1, r2, r3⟩, ⟨oa, on, oc⟩, ⟨ka, kn, kc⟩⟩))
    have HX8 := LH (show NdR w8 (rng (wr.heap.size + 1) w8.heap.size) ⟨kd, fl, tx, xn, ⟨l1, l2, l3⟩, ⟨r1, r2, r3⟩, ⟨oa, on, oc⟩, ⟨ka, kn, kc⟩⟩ t7 from by
     rw [HS8.out, ← HGA.out, hw8]
     exact hx.set12 (y := ⟨kd, fl, tx, xn, ⟨l1, l2, l3⟩, ⟨r1, r2, r3⟩, ⟨oa, on, oc⟩, ⟨ka, kn, kc⟩⟩) (fun b h => by have := h.1; rw [HGA.out] at this; omega))
    have hzz := HZA.out.below hb7 (by rw [HGA.out]; omega)
    have HV7 := LH (show gf (y.v f) = [(0, t7)] from hv)
    have HXB := LH (show Blk w8 wr.heap.size 36 #[.int .i64 kd, .string (str fl), .string (str tx), .int .i64 xn, .bool l1, .bool l2, .string (str l3), .bool r1, .bool r2, .string (str r3), .slice oa on oc, .slice ka kn kc] from by rw [hw8]; exact Blk.set12 (x := nvLeaf 0 [] [] 0) (y := ⟨kd, fl, tx, xn, ⟨l1, l2, l3⟩, ⟨r1, r2, r3⟩, ⟨oa, on, oc⟩, ⟨ka, kn, kc⟩⟩) hzz)
    have HW8 := LH hw8
    clear hw8
    clear hb7 hx hv
    obtain ⟨z0, z1, z2, z3, z4, z5, z6, z7, z8, z9, z10, z11, fz0, fz1, fz2, fz3, fz4, fz5, fz6, fz7, fz8, fz9, fz10, fz11, lz⟩ := blk12 hzz; (try simp only [World.size_alloc] at lz)
    clear hzz
    go_upto_region 12 with fail
    clear z0 fz0 z1 fz1 z2 fz2 z3 fz3 z4 fz4 z5 fz5 z6 fz6 z7 fz7 z8 fz8 z9 fz9 z10 fz10 z11 fz11 lz
    generalize (((((((((((w7.setCell ⟨wr.heap.size, 0, none⟩ (.int .i64 kd)).setCell ⟨wr.heap.size, 1, none⟩ (.string (str fl))).setCell ⟨wr.heap.size, 2, none⟩ (.string (str tx))).setCell ⟨wr.heap.size, 3, none⟩ (.int .i64 xn)).setCell ⟨wr.heap.size, 4, none⟩ (.bool l1)).setCell ⟨wr.heap.size, 5, none⟩ (.bool l2)).setCell ⟨wr.heap.size, 6, none⟩ (.string (str l3))).setCell ⟨wr.heap.size, 7, none⟩ (.bool r1)).setCell ⟨wr.heap.size, 8, none⟩ (.bool r2)).setCell ⟨wr.heap.size, 9, none⟩ (.string (str r3))).setCell ⟨wr.heap.size, 10, none⟩ (.slice oa on oc)).setCell ⟨wr.heap.size, 11, none⟩ (.slice ka kn kc) = w8b at *
    obtain rfl := HW8.out
    have HKA8 := LH (HKA.out.pb (pb := 0) (PB.of HB8.out (Nat.zero_le _)) (by omega))
    have HSV8 := LH (HSV.out.below HB8.out)
    have HPC8 := LH (HPC.out.belowW HBR.out HB8.out)
    have HB88 := LH (HB.out.trans (HB8.out.mono HB.out.size))
    have HZ8 := LH (HZ.out.below HB8.out HN1.out)
    have HOB := LH (fun (g : Nat) (hg : (Value.slice KA_ nl.length KC_).ownBlock = some g) => (show g < wr.heap.size + 1 from Nat.lt_succ_of_lt (World.ownsRow.lt HKA.out.own g hg).2))
    have hzz := HXB.out
    obtain ⟨y0, y1, y2, y3, y4, y5, y6, y7, y8, y9, y10, y11, -, -, -, -, -, -, -, -, -, -, -, -, ly⟩ := blk12 hzz
    clear hzz
    go_wp2_with (at_builtin; refine OwnL.appendL ndOk HKA8.out.own ⟨kd, fl, tx, xn, ⟨l1, l2, l3⟩, ⟨r1, r2, r3⟩, ⟨oa, on, oc⟩, ⟨ka, kn, kc⟩⟩ w8.heap.size rfl _ _ rfl rfl rfl #[.int .i64 kd, .string (str fl), .string (str tx), .int .i64 xn, .bool l1, .bool l2, .string (str l3), .bool r1, .bool r2, .string (str r3), .slice oa on oc, .slice ka kn kc] rfl rfl HKA8.out.hB (by have := HNL.out; have := HPL.out; omega) ?_)
    intro v9 w9 ho9 hb9 hk9 hg9
    have HKA9 := LH (HKA8.out.app HX8.out (by have := HN1.out; omega) HOB.out ho9 hb9 hk9 hg9)
    have HSV9 := LH (HSV8.out.keptL HKA8.out.own (by decide) hk9)
    have HPC9 := LH (HPC8.out.low (hb9.mono (by have := HBW.out; omega)))
    have HB9 := LH (HB88.out.trans (hb9.mono (Nat.le_succ _)))
    have HZ9 := LH (HZ8.out.below hb9 (Nat.lt_succ_self _))
    clear ho9 hb9 hk9 hg9
    have hpl : P.length ≤ 100000001 := HPL.out
    go_wp2
    go_roundw
    case rel => exact ⟨i + 1, _, tl ++ [t7], by go_num, hlt, by rw [List.length_append, HNL.out]; rfl, HKA9.out, by rw [HVS.out, HVL.out, HV7.out, zr_snoc], HSV9.out, HPC9.out, HB9.out, HZ9.out⟩
    case measure => simp [intOf]; omega
   ·have hie : i = P.length := by have := HIR.out; omega
    have HVE := LH (show vf = zr tl from by rw [HPV.out, ← HVL.out, hie, List.take_length])
    have HTN := LH HKA.out.trees.1
    have HFB := LH (fun (b : Nat) (h : rng (w.heap.size + 1) wr.heap.size b) => (show w.heap.size < b ∧ b < wr.heap.size from ⟨by have := h.1; omega, h.2⟩))
    clear hie
    have hzz := HZ.out
    obtain ⟨z0, z1, z2, z3, z4, z5, z6, z7, z8, z9, z10, z11, fz0, fz1, fz2, fz3, fz4, fz5, fz6, fz7, fz8, fz9, fz10, fz11, lz⟩ := blk12 hzz; (try simp only [World.size_alloc] at lz)
    clear hzz
    by_cases h1 : tl.length = 1
    ·obtain ⟨t0, rfl⟩ := List.length_eq_one_iff.1 h1
     have hn1 : nl.length = 1 := by rw [HTN.out]; exact h1
     obtain ⟨x0, rfl⟩ := List.length_eq_one_iff.1 hn1
     obtain ⟨b0, hb0, hbF, hbl, hc0, hc⟩ := HKA.out.rd.1.nd0
     subst hb0
     obtain ⟨kd, fl, tx, xn, ⟨l1, l2, l3⟩, ⟨r1, r2, r3⟩, ⟨oa, on, oc⟩, ⟨ka, kn, kc⟩⟩ := x0
     have d1 := hc 0 _ rfl; have d2 := hc 1 _ rfl; have d3 := hc 2 _ rfl; have d4 := hc 3 _ rfl; have d5 := hc 4 _ rfl; have d6 := hc 5 _ rfl
     have d7 := hc 6 _ rfl; have d8 := hc 7 _ rfl; have d9 := hc 8 _ rfl; have d10 := hc 9 _ rfl; have d11 := hc 10 _ rfl
     simp only [Nat.zero_add, Nat.reduceAdd] at d1 d2 d3 d4 d5 d6 d7 d8 d9 d10 d11 hc0
     have HXF := LH (HKA.out.rd.2.2 0 _ _ rfl rfl)
     have HVF := LH (show wrapN kind vf = [(0, t0)] from by rw [HVE.out, wrap_one])
     clear hc h1 hn1 hbF
     go_wp2
     refine bodyPost_ret (v := NV.val ⟨kd, fl, tx, xn, ⟨l1, l2, l3⟩, ⟨r1, r2, r3⟩, ⟨oa, on, oc⟩, ⟨ka, kn, kc⟩⟩) ?_ rfl ?_
     ·simp [results, Tryd.results89, go_sem, NV.val, bd0, str, lz, fz0, fz1, fz2, fz3, fz4, fz5, fz6, fz7, fz8, fz9, fz10, fz11, z0, z1, z2, z3, z4, z5, z6, z7, z8, z9, z10, z11]
     ·exact RRet.box HB.out HVF.out HXF.out HFB.out
    ·have hn1 : ((nl.length : Int) == 1) = false := by rw [HTN.out]; simp; omega
     have HVF := LH (show wrapN kind vf = [(0, ndKids kind 0 tl)] from by rw [HVE.out, wrap_more _ h1])
     clear h1
     go_wp2
     refine bodyPost_ret (v := NV.val ⟨kind, [], [], 0, bd0, bd0, ⟨none, 0, 0⟩, ⟨KA_, nl.length, KC_⟩⟩) ?_ rfl ?_
     ·simp [results, Tryd.results89, go_sem, NV.val, bd0, str, lz, fz0, fz1, fz2, fz3, fz4, fz5, fz6, fz7, fz8, fz9, fz10, fz11, z0, z1, z2, z3, z4, z5, z6, z7, z8, z9, z10, z11]
     ·exact RRet.box HB.out HVF.out (NdR.mk (RdF.nil _ _ _) HKA.out.rd.1 HTN.out HKA.out.rd.2.2) HFB.out
theorem rjoin_17 (M : Nat) (hM : M ≤ 100000000) (hN : NegOk M) : RdOk 89 [.int .i64 17, .int .i64 12] .maxes (wrapN 12) M := by
 intro ts n0 v hD hT hlen w B A k cap f h hB
 obtain ⟨B0, v0, r, hch⟩ := hD.maxC
 obtain ⟨P, hP, hPD, hPV, hPL⟩ := chain_parts hch (by omega) (by simp [okm])
 refine rjoin_gen 17 12 ts (v f) P _ id f rfl hP (hPV f) (by omega) (by omega) (Or.inr <| Or.inr ⟨rfl, fun x hx ht hle => ?_⟩) w B A k cap h hB
 obtain ⟨ny, hny⟩ := hPD x hx
 exact fun W B a k cap hW hS => hN x.A ny x.v hny (hT.sub ht) (Nat.lt_of_le_of_lt hle hlen) W B a k cap f hW hS
theorem rjoin_4 (M : Nat) (hM : M ≤ 100000000) (hN : JmOk M) : RdOk 89 [.int .i64 4, .int .i64 10] .ands (wrapN 10) M := by
 intro ts n0 v hD hT hlen w B A k cap f h hB
 obtain ⟨B0, v0, r, hch⟩ := hD.andC
 obtain ⟨P, hP, hPD, hPV, hPL⟩ := chain_parts hch (by omega) (by simp [okm])
 refine rjoin_gen 4 10 ts (v f) P _ (wrapN 12) f rfl hP (hPV f) (by omega) (by omega) (Or.inr <| Or.inl ⟨rfl, fun x hx ht hle => ?_⟩) w B A k cap h hB
 obtain ⟨ny, hny⟩ := hPD x hx
 exact fun W B a k cap hW hS => hN x.A ny x.v hny (hT.sub ht) (Nat.lt_of_le_of_lt hle hlen) W B a k cap f hW hS
theorem rjoin_5 (M : Nat) (hM : M ≤ 100000000) (hN : JaOk M) : RdOk 89 [.int .i64 5, .int .i64 11] .ors (wrapN 11) M := by
 intro ts n0 v hD hT hlen w B A k cap f h hB
 obtain ⟨B0, v0, r, hch⟩ := hD.orC
 obtain ⟨P, hP, hPD, hPV, hPL⟩ := chain_parts hch (by omega) (by simp [okm])
 refine rjoin_gen 5 11 ts (v f) P _ (wrapN 10) f rfl hP (hPV f) (by omega) (by omega) (Or.inl ⟨rfl, fun x hx ht hle => ?_⟩) w B A k cap h hB
 obtain ⟨ny, hny⟩ := hPD x hx
 exact fun W B a k cap hW hS => hN x.A ny x.v hny (hT.sub ht) (Nat.lt_of_le_of_lt hle hlen) W B a k cap f hW hS
end Go.Proofs.YtcomdkejpaoneaaDoor
end
