/- Merged for a claim by shake.py: Dl -/
import Derived.Test.YtcomdkejpaoneaaDoorKfA
import Derived.Test.YtcomdkejpaoneaaDoorKf45
section
namespace Go.Proofs.YtcomdkejpaoneaaDoor
open Go.RowKit
set_option maxRecDepth 100000
set_option maxHeartbeats 8000000
set_option linter.unusedSimpArgs false
set_option linter.unusedVariables false
def WhRel (w : World) (B : Nat) (ts : List Lt) (P : List Cl) (f : List UInt8) (sls : List Sl) (rs : List (Nat × Nat)) (sv iv : Value) (W : World) : Prop :=
 ∃ (i : Nat) (nl : List NV) (KA_ OA_ : Option Addr) (KC_ OC_ : Nat), iv = .int .i64 (i : Int) ∧ i ≤ P.length ∧ nl.length = i ∧ (clV (P.take i) f).length = i ∧ KL (w.heap.size + 2) W (.slice KA_ i KC_) nl ((clV (P.take i) f).map (·.2)) (.slice OA_ i OC_) ((clV (P.take i) f).map (·.1)) ∧ OwnL slS W (w.heap.size + 2) sv sls ∧ Pcs W B ts sls rs ∧ Below w.heap.size w W ∧ Blk W w.heap.size 36 zA ∧ Blk W (w.heap.size + 1) 36 #[.int .i64 9, .string ⟨#[]⟩, .string ⟨#[]⟩, .int .i64 0, .bool false, .bool false, .string ⟨#[]⟩, .bool false, .bool false, .string ⟨#[]⟩, .slice OA_ i OC_, .slice KA_ i KC_]
theorem clause_hd {A : List Lt} {n : Nat} {v : Vl} (h : D .clause A n v) : ∃ t r, A = t :: r := by
 obtain ⟨⟨t, r, e, _⟩, _⟩ := h.okk
 exact ⟨t, r, e⟩
theorem ors_hd {t : Lt} {r : List Lt} {n : Nat} {v : Vl} (h : D .ors (t :: r) n v) : t.kind ≠ 15 ∧ t.kind ≠ 16 := by
 obtain ⟨⟨t1, r1, hA, _, h15, h16⟩, _⟩ := h.okk
 injection hA with h1 h2
 subst h1
 exact ⟨h15, h16⟩
theorem rwhole_of (M : Nat) (hM : M ≤ 100000000) (hJ : JoOk M) (hN : NegOk M) : WhOk M := by
 intro ts n0 v hD hT hlen w B A k cap f h hB
 have hl : ts.length ≤ 100000000 := Nat.le_trans (Nat.le_of_lt hlen) hM
 obtain ⟨P, hP, hPD, hPV, hPL⟩ := list_parts hD
 have HPP := LH hP; have HPD := LH hPD; have HPV := LH (show v f = clV P f from hPV f); have HT := LH hT
 have HPL := LH (show P.length ≤ 100000001 from by omega)
 have HLE := LH hlen
 have HB1 := LH (show Below w.heap.size w (w.alloc zO) from (Below.refl _ _).alloc (Nat.le_refl _) zO)
 have HB2 := LH (HB1.out.alloc HB1.out.size (.cells #[.int .i64 9, .string ⟨#[]⟩, .string ⟨#[]⟩, .int .i64 0, .bool false, .bool false, .string ⟨#[]⟩, .bool false, .bool false, .string ⟨#[]⟩, .slice none 0 0, .slice none 0 0] 36))
 have HR2 := LH (h.belowW hB HB2.out)
 have HZ2 := LH ((Blk.new w 36 zA).alloc (.cells #[.int .i64 9, .string ⟨#[]⟩, .string ⟨#[]⟩, .int .i64 0, .bool false, .bool false, .string ⟨#[]⟩, .bool false, .bool false, .string ⟨#[]⟩, .slice none 0 0, .slice none 0 0] 36))
 have HX2 := LH (show Blk ((w.alloc zO).alloc (.cells #[.int .i64 9, .string ⟨#[]⟩, .string ⟨#[]⟩, .int .i64 0, .bool false, .bool false, .string ⟨#[]⟩, .bool false, .bool false, .string ⟨#[]⟩, .slice none 0 0, .slice none 0 0] 36)) (w.heap.size + 1) 36 #[.int .i64 9, .string ⟨#[]⟩, .string ⟨#[]⟩, .int .i64 0, .bool false, .bool false, .string ⟨#[]⟩, .bool false, .bool false, .string ⟨#[]⟩, .slice none 0 0, .slice none 0 0] from by
  have h := Blk.new (w.alloc zO) 36 #[.int .i64 9, .string ⟨#[]⟩, .string ⟨#[]⟩, .int .i64 0, .bool false, .bool false, .string ⟨#[]⟩, .bool false, .bool false, .string ⟨#[]⟩, .slice none 0 0, .slice none 0 0]
  rw [World.size_alloc] at h
  exact h)
 have HSZ2 := LH (show ((w.alloc zO).alloc (.cells #[.int .i64 9, .string ⟨#[]⟩, .string ⟨#[]⟩, .int .i64 0, .bool false, .bool false, .string ⟨#[]⟩, .bool false, .bool false, .string ⟨#[]⟩, .slice none 0 0, .slice none 0 0] 36)).heap.size = w.heap.size + 2 from by rw [World.size_alloc, World.size_alloc])
 have HBW := LH hB
 have HCC := LH (fun (W : World) (hW : RdL ltS W B (.slice A k cap) ts) (hS : B ≤ W.heap.size) => rclauses_any ts W B A k cap hW hS hl)
 clear h hB hP hPD hPV hT hPL hD
 go_enter Tryd.func58, Tryd.ntmps58
 go_upto_region 2 with fail
 generalize ((w.alloc zO).alloc (.cells #[.int .i64 9, .string ⟨#[]⟩, .string ⟨#[]⟩, .int .i64 0, .bool false, .bool false, .string ⟨#[]⟩, .bool false, .bool false, .string ⟨#[]⟩, .slice none 0 0, .slice none 0 0] 36)) = w2 at *
 go_wp2_with fail
 refine (HCC.out w2 HR2.out (by have := HBW.out; have := HSZ2.out; omega)).mono ?_
 rintro e w3 ⟨hb3, sv, sls, rfl, hs3, hp3⟩
 obtain ⟨SA, sc, rfl, -, -⟩ := hs3.form
 have HSN := LH (show sls.length = P.length from hp3.1.trans HPP.out.len)
 have HJ0 := LH (show WhRel w B ts P f sls (clI 0 0 0 0 ts) (.slice SA sls.length sc) (.int .i64 0) w3 from
  ⟨0, [], none, none, 0, 0, rfl, Nat.zero_le _, rfl, rfl, KL.nil (by have := hb3.size; have := HSZ2.out; omega), hs3.more (by have := HSZ2.out; omega), hp3, HB2.out.trans (hb3.mono HB2.out.size), HZ2.out.below hb3 (by have := HSZ2.out; omega), HX2.out.below hb3 (by have := HSZ2.out; omega)⟩)
 rw [HSN.out] at HJ0 ⊢
 clear hb3 hs3 hp3 HCC HR2 HZ2 HX2
 go_wp2
 go_loopw [14] (fun iv wr => WhRel w B ts P f sls (clI 0 0 0 0 ts) (.slice SA P.length sc) iv wr) (fun iv _ => P.length - (intOf iv).toNat)
 case atStart => exact HJ0.out
 case round =>
  clear HJ0
  obtain ⟨i, nl, KA_, OA_, KC_, OC_, rfl, hi, hnl, hvl, hkl, hsv, hpc, hb, hz, hx⟩ := hrel
  have HIR := LH hi; have HNL := LH hnl; have HVN := LH hvl; have HKL := LH hkl; have HSV := LH hsv; have HPC := LH hpc; have HB := LH hb; have HZ := LH hz; have HN := LH hx
  have HBR := LH (show B ≤ wr.heap.size from Nat.le_trans HBW.out hb.size)
  have HN1 := LH (show w.heap.size + 1 < wr.heap.size from hx.lt)
  clear hi hnl hvl hkl hsv hpc hb hz hx
  by_cases hlt : i < P.length
  ·obtain ⟨y, hy⟩ : ∃ y, P[i]? = some y := ⟨_, List.getElem?_eq_getElem hlt⟩
   obtain ⟨rr, hr, hpcr, hrl, hyl, hym⟩ := HPP.out.at_ i y hy
   obtain ⟨s, hs⟩ : ∃ s, sls[i]? = some s := ⟨_, List.getElem?_eq_getElem (by rw [HSN.out]; exact hlt)⟩
   have hsr := (HPC.out.2 i s rr hs hr).2
   have hsn := (HPC.out.2 i s rr hs hr).1
   rw [hrl] at hsn
   rw [hpcr] at hsr
   obtain ⟨sa, rfl, hcell⟩ := at_sl HSV.out hs
   obtain ⟨ny, hny⟩ := HPD.out y (List.mem_of_getElem? hy)
   obtain ⟨t0, r0, hyA⟩ := clause_hd hny
   obtain ⟨ya, yv⟩ := y
   simp only [] at hyA hsr hyl hym hny hsn
   subst hyA
   have HBA := LH (show Below wr.heap.size wr (wr.alloc zO) from (Below.refl _ _).alloc (Nat.le_refl _) zO)
   have HGA := LH (show (wr.alloc zO).heap.size = wr.heap.size + 1 from World.size_alloc _ _)
   have HRA := LH (hsr.belowW HBR.out HBA.out)
   have HZA := LH (Blk.new wr 36 zA)
   have HVS := LH (clV_succ hy f)
   have HYL := LH (Nat.lt_of_le_of_lt hyl HLE.out)
   have HYT := LH (HT.out.sub hym)
   have HBA2 := LH (show B ≤ (wr.alloc zO).heap.size from by rw [HGA.out]; have := HBR.out; omega)
   clear hy hr hpcr hrl hyl hym hs hsr
   obtain ⟨s_a, s_n, s_c⟩ := s
   simp only [List.length_cons] at hcell HRA hsn
   subst hsn
   obtain ⟨qa, rfl⟩ := some_of_rd HRA.out
   obtain ⟨hqb, q0, -, -, -, -⟩ := at_lt2 HRA.out qa rfl 0 t0 rfl
   have ea : qa.add (0 * 5) = qa := by simp [Addr.add]
   rw [ea] at hqb q0
   have hcase : (∃ n v, D .ors (t0 :: r0) n v ∧ yv = fun f => wrapN 11 (v f)) ∨ (∃ n v, D .unary r0 n v ∧ t0.kind = 15 ∧ yv = fun f => (v f).map fun x => ((1 : Int), x.2)) ∨ (∃ n v, D .unary r0 n v ∧ t0.kind = 16 ∧ yv = fun f => (v f).map fun x => ((2 : Int), x.2)) := by
    cases hny with
    | clauseO h => exact .inl ⟨_, _, h, rfl⟩
    | sign hs hu =>
     rcases hs with hs | hs
     ·exact .inr (.inl ⟨_, _, hu, hs, by funext f; rw [if_pos hs]⟩)
     ·exact .inr (.inr ⟨_, _, hu, hs, by funext f; rw [if_neg (by omega)]⟩)
   clear hny ea
   rcases hcase with ⟨m, u, hD, rfl⟩ | ⟨m, u, hD, hs, rfl⟩ | ⟨m, u, hD, hs, rfl⟩
   ·skip
    obtain ⟨h15, h16⟩ := ors_hd hD
    have e15 : (t0.kind == 15) = false := by simpa using h15
    have e16 : (t0.kind == 16) = false := by simpa using h16
    have HNN := LH (fun (W : World) (hW : RdL ltS W B (.slice (some qa) (r0.length + 1) s_c) (t0 :: r0)) (hS : B ≤ W.heap.size) => hJ (t0 :: r0) m u hD HYT.out HYL.out W B (some qa) (r0.length + 1) s_c f hW hS)
    clear hD h15 h16
    go_wp2_with fail
    clear hcell q0 e15 e16
    generalize wr.alloc zO = wA at *
    refine (HNN.out wA HRA.out HBA2.out).mono ?_
    rintro e w7 ⟨hb7, x, t7, rfl, hv, hx⟩
    obtain ⟨kd, fl, tx, xn, ⟨l1, l2, l3⟩, ⟨r1, r2, r3⟩, ⟨oa, on, oc⟩, ⟨ka, kn, kc⟩⟩ := x
    unfold NV.val
    simp only []
    obtain ⟨w8, hw8⟩ : ∃ w8, w8 = (((((((((((w7.setCell ⟨wr.heap.size, 0, none⟩ (.int .i64 kd)).setCell ⟨wr.heap.size, 1, none⟩ (.string (str fl))).setCell ⟨wr.heap.size, 2, none⟩ (.string (str tx))).setCell ⟨wr.heap.size, 3, none⟩ (.int .i64 xn)).setCell ⟨wr.heap.size, 4, none⟩ (.bool l1)).setCell ⟨wr.heap.size, 5, none⟩ (.bool l2)).setCell ⟨wr.heap.size, 6, none⟩ (.string (str l3))).setCell ⟨wr.heap.size, 7, none⟩ (.bool r1)).setCell ⟨wr.heap.size, 8, none⟩ (.bool r2)).setCell ⟨wr.heap.size, 9, none⟩ (.string (str r3))).setCell ⟨wr.heap.size, 10, none⟩ (.slice oa on oc)).setCell ⟨wr.heap.size, 11, none⟩ (.slice ka kn kc) := ⟨_, rfl⟩
    have HB8 := LH (show Below wr.heap.size wr w8 from by rw [hw8]; exact set12_below (y := ⟨kd, fl, tx, xn, ⟨l1, l2, l3⟩, ⟨r1, r2, r3⟩, ⟨oa, on, oc⟩, ⟨ka, kn, kc⟩⟩) (HBA.out.trans (hb7.mono HBA.out.size)) (Nat.le_refl _))
    have HS8 := LH (show w8.heap.size = w7.heap.size from by rw [hw8]; exact set12_size (x := ⟨kd, fl, tx, xn, ⟨l1, l2, l3⟩, ⟨r1, r2, r3⟩, ⟨oa, on, oc⟩, ⟨ka, kn, kc⟩⟩))
    have HX8 := LH (show NdR w8 (rng (wr.heap.size + 1) w8.heap.size) ⟨kd, fl, tx, xn, ⟨l1, l2, l3⟩, ⟨r1, r2, r3⟩, ⟨oa, on, oc⟩, ⟨ka, kn, kc⟩⟩ t7 from by
     rw [HS8.out, ← HGA.out, hw8]
     exact hx.set12 (y := ⟨kd, fl, tx, xn, ⟨l1, l2, l3⟩, ⟨r1, r2, r3⟩, ⟨oa, on, oc⟩, ⟨ka, kn, kc⟩⟩) (fun b h => by have := h.1; rw [HGA.out] at this; omega))
    have hzz := HZA.out.below hb7 (by rw [HGA.out]; omega)
    have HXB := LH (show Blk w8 wr.heap.size 36 #[.int .i64 kd, .string (str fl), .string (str tx), .int .i64 xn, .bool l1, .bool l2, .string (str l3), .bool r1, .bool r2, .string (str r3), .slice oa on oc, .slice ka kn kc] from by rw [hw8]; exact Blk.set12 (x := nvLeaf 0 [] [] 0) (y := ⟨kd, fl, tx, xn, ⟨l1, l2, l3⟩, ⟨r1, r2, r3⟩, ⟨oa, on, oc⟩, ⟨ka, kn, kc⟩⟩) hzz)
    have HW8 := LH hw8
    clear hw8
    have HV7 := LH (show wrapN 11 (u f) = [((0 : Int), t7)] from hv)
    clear hb7 hx hv
    obtain ⟨z0, z1, z2, z3, z4, z5, z6, z7, z8, z9, z10, z11, fz0, fz1, fz2, fz3, fz4, fz5, fz6, fz7, fz8, fz9, fz10, fz11, lz⟩ := blk12 hzz; (try simp only [World.size_alloc] at lz)
    clear hzz
    go_upto_region 15 with fail
    clear z0 fz0 z1 fz1 z2 fz2 z3 fz3 z4 fz4 z5 fz5 z6 fz6 z7 fz7 z8 fz8 z9 fz9 z10 fz10 z11 fz11 lz
    generalize (((((((((((w7.setCell ⟨wr.heap.size, 0, none⟩ (.int .i64 kd)).setCell ⟨wr.heap.size, 1, none⟩ (.string (str fl))).setCell ⟨wr.heap.size, 2, none⟩ (.string (str tx))).setCell ⟨wr.heap.size, 3, none⟩ (.int .i64 xn)).setCell ⟨wr.heap.size, 4, none⟩ (.bool l1)).setCell ⟨wr.heap.size, 5, none⟩ (.bool l2)).setCell ⟨wr.heap.size, 6, none⟩ (.string (str l3))).setCell ⟨wr.heap.size, 7, none⟩ (.bool r1)).setCell ⟨wr.heap.size, 8, none⟩ (.bool r2)).setCell ⟨wr.heap.size, 9, none⟩ (.string (str r3))).setCell ⟨wr.heap.size, 10, none⟩ (.slice oa on oc)).setCell ⟨wr.heap.size, 11, none⟩ (.slice ka kn kc) = w8b at *
    obtain rfl := HW8.out
    have HKL8 := LH (HKL.out.keep (pb := 0) (PB.of HB8.out (Nat.zero_le _)) (by omega))
    have HSV8 := LH (HSV.out.below HB8.out)
    have HPC8 := LH (HPC.out.belowW HBR.out HB8.out)
    have HB88 := LH (HB.out.trans (HB8.out.mono HB.out.size))
    have HZ8 := LH (HZ.out.below HB8.out (by have := HN1.out; omega))
    have HN8 := LH (HN.out.below HB8.out HN1.out)
    have HGK := LH (fun (g : Nat) (hg : (Value.slice KA_ i KC_).ownBlock = some g) => (show g < wr.heap.size + 1 from Nat.lt_succ_of_lt (World.ownsRow.lt HKL.out.own g hg).2))
    have HGO := LH (fun (g : Nat) (hg : (Value.slice OA_ i OC_).ownBlock = some g) => (show g < wr.heap.size + 1 from Nat.lt_succ_of_lt (World.ownsRow.lt HKL.out.occ g hg).2))
    have hzz := HXB.out
    obtain ⟨y0, y1, y2, y3, y4, y5, y6, y7, y8, y9, y10, y11, -, -, -, -, -, -, -, -, -, -, -, -, ly⟩ := blk12 hzz
    clear hzz
    have n11 : w8.cell? ⟨w.heap.size + 1, 11, none⟩ = some (.slice KA_ i KC_) := HN8.out.cell 11
    go_wp2_with (at_builtin; refine OwnL.appendL ndOk HKL8.out.own ⟨kd, fl, tx, xn, ⟨l1, l2, l3⟩, ⟨r1, r2, r3⟩, ⟨oa, on, oc⟩, ⟨ka, kn, kc⟩⟩ w8.heap.size rfl _ _ rfl rfl rfl #[.int .i64 kd, .string (str fl), .string (str tx), .int .i64 xn, .bool l1, .bool l2, .string (str l3), .bool r1, .bool r2, .string (str r3), .slice oa on oc, .slice ka kn kc] rfl rfl HKL8.out.hB (by have := HNL.out; have := HPL.out; omega) ?_)
    intro v9 w9 ho9 hb9 hk9 hg9
    have HKL9 := LH (HKL8.out.app1 HX8.out (by have := HN1.out; omega) HGK.out HGO.out ho9 hb9 hk9 hg9)
    have HSV9 := LH (HSV8.out.keptL HKL8.out.own (by decide) hk9)
    have HPC9 := LH (HPC8.out.low (hb9.mono (by have := HBW.out; omega)))
    have HB9 := LH (HB88.out.trans (hb9.mono (by omega)))
    have HZ9 := LH (HZ8.out.below hb9 (by omega))
    have HN9 := LH (HN8.out.below hb9 (by omega))
    obtain ⟨A9, c9, e9, -, -⟩ := ho9.form
    rw [List.length_append, List.length_singleton, HNL.out] at e9
    subst e9
    clear ho9 hb9 hk9 hg9 n11 y0 y1 y2 y3 y4 y5 y6 y7 y8 y9 y10 y11 ly
    have n11 : w9.cell? ⟨w.heap.size + 1, 11, none⟩ = some (.slice KA_ i KC_) := HN9.out.cell 11
    have fn11 := HN9.out.frozen 11
    have ln := HN9.out.lt
    have HPBc := LH (PB.set_ (pb := w.heap.size + 1) (w := w9) 11 (.slice A9 (i + 1) c9))
    have HKLc := LH (HKL9.out.keep HPBc.out (Nat.lt_succ_self _))
    have HSVc := LH (HSV9.out.pb HPBc.out (Nat.lt_succ_self _))
    have HPCc := LH (HPC9.out.low (HPBc.out.below.mono (by have := HBW.out; omega)))
    have HBc := LH (HB9.out.trans (HPBc.out.below.mono (Nat.le_succ _)))
    have HZc := LH (HZ9.out.far (p := ⟨w.heap.size + 1, 11, none⟩) (by show w.heap.size ≠ w.heap.size + 1; omega) (.slice A9 (i + 1) c9))
    have HNc := LH (show Blk (w9.setCell ⟨w.heap.size + 1, 11, none⟩ (.slice A9 (i + 1) c9)) (w.heap.size + 1) 36 #[.int .i64 9, .string ⟨#[]⟩, .string ⟨#[]⟩, .int .i64 0, .bool false, .bool false, .string ⟨#[]⟩, .bool false, .bool false, .string ⟨#[]⟩, .slice OA_ i OC_, .slice A9 (i + 1) c9] from HN9.out.set_ 11 _)
    go_upto_region 16 with fail
    generalize w9.setCell ⟨w.heap.size + 1, 11, none⟩ (.slice A9 (i + 1) c9) = wc at *
    clear n11 fn11 ln
    have n10 : wc.cell? ⟨w.heap.size + 1, 10, none⟩ = some (.slice OA_ i OC_) := HNc.out.cell 10
    go_wp2_with (at_builtin; refine OwnL.appendL folOk HKLc.out.occ (0 : Int) wc.heap.size rfl _ _ rfl rfl rfl #[.int .i64 0] rfl rfl HKLc.out.hB (by rw [List.length_map, HVN.out]; have := HPL.out; omega) ?_)
    intro vd wd hod hbd hkd hgd
    have HKLd := LH (HKLc.out.app2 hod hbd hkd hgd)
    have HSVd := LH (HSVc.out.keptL HKLc.out.occ (by decide) hkd)
    have HPCd := LH (HPCc.out.low (hbd.mono (by have := HBW.out; omega)))
    have HBd := LH (HBc.out.trans (hbd.mono (by omega)))
    have HZd := LH (HZc.out.below hbd (by omega))
    have HNd := LH (HNc.out.below hbd (by omega))
    obtain ⟨Ad, cd, ed, -, -⟩ := hod.form
    rw [List.length_append, List.length_singleton, List.length_map, HVN.out] at ed
    subst ed
    clear hod hbd hkd hgd n10
    have n10 : wd.cell? ⟨w.heap.size + 1, 10, none⟩ = some (.slice OA_ i OC_) := HNd.out.cell 10
    have fn10 := HNd.out.frozen 10
    have ln := HNd.out.lt
    have HPBe := LH (PB.set_ (pb := w.heap.size + 1) (w := wd) 10 (.slice Ad (i + 1) cd))
    have HVE := LH (show clV (P.take (i + 1)) f = clV (P.take i) f ++ [((0 : Int), t7)] from HVS.out.trans (congrArg (clV (P.take i) f ++ ·) HV7.out))
    have hpl : P.length ≤ 100000001 := HPL.out
    go_wp2
    go_roundw
    case rel =>
     refine ⟨i + 1, nl ++ [⟨kd, fl, tx, xn, ⟨l1, l2, l3⟩, ⟨r1, r2, r3⟩, ⟨oa, on, oc⟩, ⟨ka, kn, kc⟩⟩], A9, Ad, c9, cd, by go_num, hlt, by rw [List.length_append, HNL.out]; rfl, by rw [HVE.out, List.length_append, HVN.out]; rfl, ?_, HSVd.out.pb HPBe.out (Nat.lt_succ_self _), HPCd.out.low (HPBe.out.below.mono (by have := HBW.out; omega)), HBd.out.trans (HPBe.out.below.mono (Nat.le_succ _)), HZd.out.far (p := ⟨w.heap.size + 1, 10, none⟩) (by show w.heap.size ≠ w.heap.size + 1; omega) _, HNd.out.set_ 10 _⟩
     rw [HVE.out, List.map_append, List.map_append]
     exact HKLd.out.keep HPBe.out (Nat.lt_succ_self _)
    case measure => simp [intOf]; omega
   ·skip
    rw [hs] at q0
    obtain ⟨pa, pq, hpr, hrun⟩ := lt_from HRA.out (i := 1) (by simp)
    have hrun2 : ∀ W, (Instr.slice 42 (.slice (some qa) (r0.length + 1) s_c) (some (.int .i64 1)) none none).run Tryd.prog W = .ok (.slice pa r0.length pq) W := hrun
    clear hrun
    have HPR := LH (show RdL ltS (wr.alloc zO) B (.slice pa r0.length pq) r0 from hpr)
    clear hpr
    have HNN := LH (fun (W : World) (hW : RdL ltS W B (.slice pa r0.length pq) r0) (hS : B ≤ W.heap.size) => hN r0 m u hD (HYT.out.sub (fun x hx => List.mem_cons_of_mem _ hx)) (Nat.lt_trans (Nat.lt_succ_self _) (show r0.length + 1 < M from HYL.out)) W B pa r0.length pq f hW hS)
    clear hD hs
    go_wp2_with fail
    clear hcell q0
    generalize wr.alloc zO = wA at *
    refine (HNN.out wA HPR.out HBA2.out).mono ?_
    rintro e w7 ⟨hb7, x, t7, rfl, hv, hx⟩
    obtain ⟨kd, fl, tx, xn, ⟨l1, l2, l3⟩, ⟨r1, r2, r3⟩, ⟨oa, on, oc⟩, ⟨ka, kn, kc⟩⟩ := x
    unfold NV.val
    simp only []
    obtain ⟨w8, hw8⟩ : ∃ w8, w8 = (((((((((((w7.setCell ⟨wr.heap.size, 0, none⟩ (.int .i64 kd)).setCell ⟨wr.heap.size, 1, none⟩ (.string (str fl))).setCell ⟨wr.heap.size, 2, none⟩ (.string (str tx))).setCell ⟨wr.heap.size, 3, none⟩ (.int .i64 xn)).setCell ⟨wr.heap.size, 4, none⟩ (.bool l1)).setCell ⟨wr.heap.size, 5, none⟩ (.bool l2)).setCell ⟨wr.heap.size, 6, none⟩ (.string (str l3))).setCell ⟨wr.heap.size, 7, none⟩ (.bool r1)).setCell ⟨wr.heap.size, 8, none⟩ (.bool r2)).setCell ⟨wr.heap.size, 9, none⟩ (.string (str r3))).setCell ⟨wr.heap.size, 10, none⟩ (.slice oa on oc)).setCell ⟨wr.heap.size, 11, none⟩ (.slice ka kn kc) := ⟨_, rfl⟩
    have HB8 := LH (show Below wr.heap.size wr w8 from by rw [hw8]; exact set12_below (y := ⟨kd, fl, tx, xn, ⟨l1, l2, l3⟩, ⟨r1, r2, r3⟩, ⟨oa, on, oc⟩, ⟨ka, kn, kc⟩⟩) (HBA.out.trans (hb7.mono HBA.out.size)) (Nat.le_refl _))
    have HS8 := LH (show w8.heap.size = w7.heap.size from by rw [hw8]; exact set12_size (x := ⟨kd, fl, tx, xn, ⟨l1, l2, l3⟩, ⟨r1, r2, r3⟩, ⟨oa, on, oc⟩, ⟨ka, kn, kc⟩⟩))
    have HX8 := LH (show NdR w8 (rng (wr.heap.size + 1) w8.heap.size) ⟨kd, fl, tx, xn, ⟨l1, l2, l3⟩, ⟨r1, r2, r3⟩, ⟨oa, on, oc⟩, ⟨ka, kn, kc⟩⟩ t7 from by
     rw [HS8.out, ← HGA.out, hw8]
     exact hx.set12 (y := ⟨kd, fl, tx, xn, ⟨l1, l2, l3⟩, ⟨r1, r2, r3⟩, ⟨oa, on, oc⟩, ⟨ka, kn, kc⟩⟩) (fun b h => by have := h.1; rw [HGA.out] at this; omega))
    have hzz := HZA.out.below hb7 (by rw [HGA.out]; omega)
    have HXB := LH (show Blk w8 wr.heap.size 36 #[.int .i64 kd, .string (str fl), .string (str tx), .int .i64 xn, .bool l1, .bool l2, .string (str l3), .bool r1, .bool r2, .string (str r3), .slice oa on oc, .slice ka kn kc] from by rw [hw8]; exact Blk.set12 (x := nvLeaf 0 [] [] 0) (y := ⟨kd, fl, tx, xn, ⟨l1, l2, l3⟩, ⟨r1, r2, r3⟩, ⟨oa, on, oc⟩, ⟨ka, kn, kc⟩⟩) hzz)
    have HW8 := LH hw8
    clear hw8
    have HV7 := LH (show ((u f).map fun x => ((1 : Int), x.2)) = [((1 : Int), t7)] from by rw [show u f = [(0, t7)] from hv]; rfl)
    clear hb7 hx hv
    obtain ⟨z0, z1, z2, z3, z4, z5, z6, z7, z8, z9, z10, z11, fz0, fz1, fz2, fz3, fz4, fz5, fz6, fz7, fz8, fz9, fz10, fz11, lz⟩ := blk12 hzz; (try simp only [World.size_alloc] at lz)
    clear hzz
    go_upto_region 15 with fail
    clear z0 fz0 z1 fz1 z2 fz2 z3 fz3 z4 fz4 z5 fz5 z6 fz6 z7 fz7 z8 fz8 z9 fz9 z10 fz10 z11 fz11 lz
    generalize (((((((((((w7.setCell ⟨wr.heap.size, 0, none⟩ (.int .i64 kd)).setCell ⟨wr.heap.size, 1, none⟩ (.string (str fl))).setCell ⟨wr.heap.size, 2, none⟩ (.string (str tx))).setCell ⟨wr.heap.size, 3, none⟩ (.int .i64 xn)).setCell ⟨wr.heap.size, 4, none⟩ (.bool l1)).setCell ⟨wr.heap.size, 5, none⟩ (.bool l2)).setCell ⟨wr.heap.size, 6, none⟩ (.string (str l3))).setCell ⟨wr.heap.size, 7, none⟩ (.bool r1)).setCell ⟨wr.heap.size, 8, none⟩ (.bool r2)).setCell ⟨wr.heap.size, 9, none⟩ (.string (str r3))).setCell ⟨wr.heap.size, 10, none⟩ (.slice oa on oc)).setCell ⟨wr.heap.size, 11, none⟩ (.slice ka kn kc) = w8b at *
    obtain rfl := HW8.out
    have HKL8 := LH (HKL.out.keep (pb := 0) (PB.of HB8.out (Nat.zero_le _)) (by omega))
    have HSV8 := LH (HSV.out.below HB8.out)
    have HPC8 := LH (HPC.out.belowW HBR.out HB8.out)
    have HB88 := LH (HB.out.trans (HB8.out.mono HB.out.size))
    have HZ8 := LH (HZ.out.below HB8.out (by have := HN1.out; omega))
    have HN8 := LH (HN.out.below HB8.out HN1.out)
    have HGK := LH (fun (g : Nat) (hg : (Value.slice KA_ i KC_).ownBlock = some g) => (show g < wr.heap.size + 1 from Nat.lt_succ_of_lt (World.ownsRow.lt HKL.out.own g hg).2))
    have HGO := LH (fun (g : Nat) (hg : (Value.slice OA_ i OC_).ownBlock = some g) => (show g < wr.heap.size + 1 from Nat.lt_succ_of_lt (World.ownsRow.lt HKL.out.occ g hg).2))
    have hzz := HXB.out
    obtain ⟨y0, y1, y2, y3, y4, y5, y6, y7, y8, y9, y10, y11, -, -, -, -, -, -, -, -, -, -, -, -, ly⟩ := blk12 hzz
    clear hzz
    have n11 : w8.cell? ⟨w.heap.size + 1, 11, none⟩ = some (.slice KA_ i KC_) := HN8.out.cell 11
    go_wp2_with (at_builtin; refine OwnL.appendL ndOk HKL8.out.own ⟨kd, fl, tx, xn, ⟨l1, l2, l3⟩, ⟨r1, r2, r3⟩, ⟨oa, on, oc⟩, ⟨ka, kn, kc⟩⟩ w8.heap.size rfl _ _ rfl rfl rfl #[.int .i64 kd, .string (str fl), .string (str tx), .int .i64 xn, .bool l1, .bool l2, .string (str l3), .bool r1, .bool r2, .string (str r3), .slice oa on oc, .slice ka kn kc] rfl rfl HKL8.out.hB (by have := HNL.out; have := HPL.out; omega) ?_)
    intro v9 w9 ho9 hb9 hk9 hg9
    have HKL9 := LH (HKL8.out.app1 HX8.out (by have := HN1.out; omega) HGK.out HGO.out ho9 hb9 hk9 hg9)
    have HSV9 := LH (HSV8.out.keptL HKL8.out.own (by decide) hk9)
    have HPC9 := LH (HPC8.out.low (hb9.mono (by have := HBW.out; omega)))
    have HB9 := LH (HB88.out.trans (hb9.mono (by omega)))
    have HZ9 := LH (HZ8.out.below hb9 (by omega))
    have HN9 := LH (HN8.out.below hb9 (by omega))
    obtain ⟨A9, c9, e9, -, -⟩ := ho9.form
    rw [List.length_append, List.length_singleton, HNL.out] at e9
    subst e9
    clear ho9 hb9 hk9 hg9 n11 y0 y1 y2 y3 y4 y5 y6 y7 y8 y9 y10 y11 ly
    have n11 : w9.cell? ⟨w.heap.size + 1, 11, none⟩ = some (.slice KA_ i KC_) := HN9.out.cell 11
    have fn11 := HN9.out.frozen 11
    have ln := HN9.out.lt
    have HPBc := LH (PB.set_ (pb := w.heap.size + 1) (w := w9) 11 (.slice A9 (i + 1) c9))
    have HKLc := LH (HKL9.out.keep HPBc.out (Nat.lt_succ_self _))
    have HSVc := LH (HSV9.out.pb HPBc.out (Nat.lt_succ_self _))
    have HPCc := LH (HPC9.out.low (HPBc.out.below.mono (by have := HBW.out; omega)))
    have HBc := LH (HB9.out.trans (HPBc.out.below.mono (Nat.le_succ _)))
    have HZc := LH (HZ9.out.far (p := ⟨w.heap.size + 1, 11, none⟩) (by show w.heap.size ≠ w.heap.size + 1; omega) (.slice A9 (i + 1) c9))
    have HNc := LH (show Blk (w9.setCell ⟨w.heap.size + 1, 11, none⟩ (.slice A9 (i + 1) c9)) (w.heap.size + 1) 36 #[.int .i64 9, .string ⟨#[]⟩, .string ⟨#[]⟩, .int .i64 0, .bool false, .bool false, .string ⟨#[]⟩, .bool false, .bool false, .string ⟨#[]⟩, .slice OA_ i OC_, .slice A9 (i + 1) c9] from HN9.out.set_ 11 _)
    go_upto_region 16 with fail
    generalize w9.setCell ⟨w.heap.size + 1, 11, none⟩ (.slice A9 (i + 1) c9) = wc at *
    clear n11 fn11 ln
    have n10 : wc.cell? ⟨w.heap.size + 1, 10, none⟩ = some (.slice OA_ i OC_) := HNc.out.cell 10
    go_wp2_with (at_builtin; refine OwnL.appendL folOk HKLc.out.occ (1 : Int) wc.heap.size rfl _ _ rfl rfl rfl #[.int .i64 1] rfl rfl HKLc.out.hB (by rw [List.length_map, HVN.out]; have := HPL.out; omega) ?_)
    intro vd wd hod hbd hkd hgd
    have HKLd := LH (HKLc.out.app2 hod hbd hkd hgd)
    have HSVd := LH (HSVc.out.keptL HKLc.out.occ (by decide) hkd)
    have HPCd := LH (HPCc.out.low (hbd.mono (by have := HBW.out; omega)))
    have HBd := LH (HBc.out.trans (hbd.mono (by omega)))
    have HZd := LH (HZc.out.below hbd (by omega))
    have HNd := LH (HNc.out.below hbd (by omega))
    obtain ⟨Ad, cd, ed, -, -⟩ := hod.form
    rw [List.length_append, List.length_singleton, List.length_map, HVN.out] at ed
    subst ed
    clear hod hbd hkd hgd n10
    have n10 : wd.cell? ⟨w.heap.size + 1, 10, none⟩ = some (.slice OA_ i OC_) := HNd.out.cell 10
    have fn10 := HNd.out.frozen 10
    have ln := HNd.out.lt
    have HPBe := LH (PB.set_ (pb := w.heap.size + 1) (w := wd) 10 (.slice Ad (i + 1) cd))
    have HVE := LH (show clV (P.take (i + 1)) f = clV (P.take i) f ++ [((1 : Int), t7)] from HVS.out.trans (congrArg (clV (P.take i) f ++ ·) HV7.out))
    have hpl : P.length ≤ 100000001 := HPL.out
    go_wp2
    go_roundw
    case rel =>
     refine ⟨i + 1, nl ++ [⟨kd, fl, tx, xn, ⟨l1, l2, l3⟩, ⟨r1, r2, r3⟩, ⟨oa, on, oc⟩, ⟨ka, kn, kc⟩⟩], A9, Ad, c9, cd, by go_num, hlt, by rw [List.length_append, HNL.out]; rfl, by rw [HVE.out, List.length_append, HVN.out]; rfl, ?_, HSVd.out.pb HPBe.out (Nat.lt_succ_self _), HPCd.out.low (HPBe.out.below.mono (by have := HBW.out; omega)), HBd.out.trans (HPBe.out.below.mono (Nat.le_succ _)), HZd.out.far (p := ⟨w.heap.size + 1, 10, none⟩) (by show w.heap.size ≠ w.heap.size + 1; omega) _, HNd.out.set_ 10 _⟩
     rw [HVE.out, List.map_append, List.map_append]
     exact HKLd.out.keep HPBe.out (Nat.lt_succ_self _)
    case measure => simp [intOf]; omega
   ·skip
    rw [hs] at q0
    obtain ⟨pa, pq, hpr, hrun⟩ := lt_from HRA.out (i := 1) (by simp)
    have hrun2 : ∀ W, (Instr.slice 42 (.slice (some qa) (r0.length + 1) s_c) (some (.int .i64 1)) none none).run Tryd.prog W = .ok (.slice pa r0.length pq) W := hrun
    clear hrun
    have HPR := LH (show RdL ltS (wr.alloc zO) B (.slice pa r0.length pq) r0 from hpr)
    clear hpr
    have HNN := LH (fun (W : World) (hW : RdL ltS W B (.slice pa r0.length pq) r0) (hS : B ≤ W.heap.size) => hN r0 m u hD (HYT.out.sub (fun x hx => List.mem_cons_of_mem _ hx)) (Nat.lt_trans (Nat.lt_succ_self _) (show r0.length + 1 < M from HYL.out)) W B pa r0.length pq f hW hS)
    clear hD hs
    go_wp2_with fail
    clear hcell q0
    generalize wr.alloc zO = wA at *
    refine (HNN.out wA HPR.out HBA2.out).mono ?_
    rintro e w7 ⟨hb7, x, t7, rfl, hv, hx⟩
    obtain ⟨kd, fl, tx, xn, ⟨l1, l2, l3⟩, ⟨r1, r2, r3⟩, ⟨oa, on, oc⟩, ⟨ka, kn, kc⟩⟩ := x
    unfold NV.val
    simp only []
    obtain ⟨w8, hw8⟩ : ∃ w8, w8 = (((((((((((w7.setCell ⟨wr.heap.size, 0, none⟩ (.int .i64 kd)).setCell ⟨wr.heap.size, 1, none⟩ (.string (str fl))).setCell ⟨wr.heap.size, 2, none⟩ (.string (str tx))).setCell ⟨wr.heap.size, 3, none⟩ (.int .i64 xn)).setCell ⟨wr.heap.size, 4, none⟩ (.bool l1)).setCell ⟨wr.heap.size, 5, none⟩ (.bool l2)).setCell ⟨wr.heap.size, 6, none⟩ (.string (str l3))).setCell ⟨wr.heap.size, 7, none⟩ (.bool r1)).setCell ⟨wr.heap.size, 8, none⟩ (.bool r2)).setCell ⟨wr.heap.size, 9, none⟩ (.string (str r3))).setCell ⟨wr.heap.size, 10, none⟩ (.slice oa on oc)).setCell ⟨wr.heap.size, 11, none⟩ (.slice ka kn kc) := ⟨_, rfl⟩
    have HB8 := LH (show Below wr.heap.size wr w8 from by rw [hw8]; exact set12_below (y := ⟨kd, fl, tx, xn, ⟨l1, l2, l3⟩, ⟨r1, r2, r3⟩, ⟨oa, on, oc⟩, ⟨ka, kn, kc⟩⟩) (HBA.out.trans (hb7.mono HBA.out.size)) (Nat.le_refl _))
    have HS8 := LH (show w8.heap.size = w7.heap.size from by rw [hw8]; exact set12_size (x := ⟨kd, fl, tx, xn, ⟨l1, l2, l3⟩, ⟨r1, r2, r3⟩, ⟨oa, on, oc⟩, ⟨ka, kn, kc⟩⟩))
    have HX8 := LH (show NdR w8 (rng (wr.heap.size + 1) w8.heap.size) ⟨kd, fl, tx, xn, ⟨l1, l2, l3⟩, ⟨r1, r2, r3⟩, ⟨oa, on, oc⟩, ⟨ka, kn, kc⟩⟩ t7 from by
     rw [HS8.out, ← HGA.out, hw8]
     exact hx.set12 (y := ⟨kd, fl, tx, xn, ⟨l1, l2, l3⟩, ⟨r1, r2, r3⟩, ⟨oa, on, oc⟩, ⟨ka, kn, kc⟩⟩) (fun b h => by have := h.1; rw [HGA.out] at this; omega))
    have hzz := HZA.out.below hb7 (by rw [HGA.out]; omega)
    have HXB := LH (show Blk w8 wr.heap.size 36 #[.int .i64 kd, .string (str fl), .string (str tx), .int .i64 xn, .bool l1, .bool l2, .string (str l3), .bool r1, .bool r2, .string (str r3), .slice oa on oc, .slice ka kn kc] from by rw [hw8]; exact Blk.set12 (x := nvLeaf 0 [] [] 0) (y := ⟨kd, fl, tx, xn, ⟨l1, l2, l3⟩, ⟨r1, r2, r3⟩, ⟨oa, on, oc⟩, ⟨ka, kn, kc⟩⟩) hzz)
    have HW8 := LH hw8
    clear hw8
    have HV7 := LH (show ((u f).map fun x => ((2 : Int), x.2)) = [((2 : Int), t7)] from by rw [show u f = [(0, t7)] from hv]; rfl)
    clear hb7 hx hv
    obtain ⟨z0, z1, z2, z3, z4, z5, z6, z7, z8, z9, z10, z11, fz0, fz1, fz2, fz3, fz4, fz5, fz6, fz7, fz8, fz9, fz10, fz11, lz⟩ := blk12 hzz; (try simp only [World.size_alloc] at lz)
    clear hzz
    go_upto_region 15 with fail
    clear z0 fz0 z1 fz1 z2 fz2 z3 fz3 z4 fz4 z5 fz5 z6 fz6 z7 fz7 z8 fz8 z9 fz9 z10 fz10 z11 fz11 lz
    generalize (((((((((((w7.setCell ⟨wr.heap.size, 0, none⟩ (.int .i64 kd)).setCell ⟨wr.heap.size, 1, none⟩ (.string (str fl))).setCell ⟨wr.heap.size, 2, none⟩ (.string (str tx))).setCell ⟨wr.heap.size, 3, none⟩ (.int .i64 xn)).setCell ⟨wr.heap.size, 4, none⟩ (.bool l1)).setCell ⟨wr.heap.size, 5, none⟩ (.bool l2)).setCell ⟨wr.heap.size, 6, none⟩ (.string (str l3))).setCell ⟨wr.heap.size, 7, none⟩ (.bool r1)).setCell ⟨wr.heap.size, 8, none⟩ (.bool r2)).setCell ⟨wr.heap.size, 9, none⟩ (.string (str r3))).setCell ⟨wr.heap.size, 10, none⟩ (.slice oa on oc)).setCell ⟨wr.heap.size, 11, none⟩ (.slice ka kn kc) = w8b at *
    obtain rfl := HW8.out
    have HKL8 := LH (HKL.out.keep (pb := 0) (PB.of HB8.out (Nat.zero_le _)) (by omega))
    have HSV8 := LH (HSV.out.below HB8.out)
    have HPC8 := LH (HPC.out.belowW HBR.out HB8.out)
    have HB88 := LH (HB.out.trans (HB8.out.mono HB.out.size))
    have HZ8 := LH (HZ.out.below HB8.out (by have := HN1.out; omega))
    have HN8 := LH (HN.out.below HB8.out HN1.out)
    have HGK := LH (fun (g : Nat) (hg : (Value.slice KA_ i KC_).ownBlock = some g) => (show g < wr.heap.size + 1 from Nat.lt_succ_of_lt (World.ownsRow.lt HKL.out.own g hg).2))
    have HGO := LH (fun (g : Nat) (hg : (Value.slice OA_ i OC_).ownBlock = some g) => (show g < wr.heap.size + 1 from Nat.lt_succ_of_lt (World.ownsRow.lt HKL.out.occ g hg).2))
    have hzz := HXB.out
    obtain ⟨y0, y1, y2, y3, y4, y5, y6, y7, y8, y9, y10, y11, -, -, -, -, -, -, -, -, -, -, -, -, ly⟩ := blk12 hzz
    clear hzz
    have n11 : w8.cell? ⟨w.heap.size + 1, 11, none⟩ = some (.slice KA_ i KC_) := HN8.out.cell 11
    go_wp2_with (at_builtin; refine OwnL.appendL ndOk HKL8.out.own ⟨kd, fl, tx, xn, ⟨l1, l2, l3⟩, ⟨r1, r2, r3⟩, ⟨oa, on, oc⟩, ⟨ka, kn, kc⟩⟩ w8.heap.size rfl _ _ rfl rfl rfl #[.int .i64 kd, .string (str fl), .string (str tx), .int .i64 xn, .bool l1, .bool l2, .string (str l3), .bool r1, .bool r2, .string (str r3), .slice oa on oc, .slice ka kn kc] rfl rfl HKL8.out.hB (by have := HNL.out; have := HPL.out; omega) ?_)
    intro v9 w9 ho9 hb9 hk9 hg9
    have HKL9 := LH (HKL8.out.app1 HX8.out (by have := HN1.out; omega) HGK.out HGO.out ho9 hb9 hk9 hg9)
    have HSV9 := LH (HSV8.out.keptL HKL8.out.own (by decide) hk9)
    have HPC9 := LH (HPC8.out.low (hb9.mono (by have := HBW.out; omega)))
    have HB9 := LH (HB88.out.trans (hb9.mono (by omega)))
    have HZ9 := LH (HZ8.out.below hb9 (by omega))
    have HN9 := LH (HN8.out.below hb9 (by omega))
    obtain ⟨A9, c9, e9, -, -⟩ := ho9.form
    rw [List.length_append, List.length_singleton, HNL.out] at e9
    subst e9
    clear ho9 hb9 hk9 hg9 n11 y0 y1 y2 y3 y4 y5 y6 y7 y8 y9 y10 y11 ly
    have n11 : w9.cell? ⟨w.heap.size + 1, 11, none⟩ = some (.slice KA_ i KC_) := HN9.out.cell 11
    have fn11 := HN9.out.frozen 11
    have ln := HN9.out.lt
    have HPBc := LH (PB.set_ (pb := w.heap.size + 1) (w := w9) 11 (.slice A9 (i + 1) c9))
    have HKLc := LH (HKL9.out.keep HPBc.out (Nat.lt_succ_self _))
    have HSVc := LH (HSV9.out.pb HPBc.out (Nat.lt_succ_self _))
    have HPCc := LH (HPC9.out.low (HPBc.out.below.mono (by have := HBW.out; omega)))
    have HBc := LH (HB9.out.trans (HPBc.out.below.mono (Nat.le_succ _)))
    have HZc := LH (HZ9.out.far (p := ⟨w.heap.size + 1, 11, none⟩) (by show w.heap.size ≠ w.heap.size + 1; omega) (.slice A9 (i + 1) c9))
    have HNc := LH (show Blk (w9.setCell ⟨w.heap.size + 1, 11, none⟩ (.slice A9 (i + 1) c9)) (w.heap.size + 1) 36 #[.int .i64 9, .string ⟨#[]⟩, .string ⟨#[]⟩, .int .i64 0, .bool false, .bool false, .string ⟨#[]⟩, .bool false, .bool false, .string ⟨#[]⟩, .slice OA_ i OC_, .slice A9 (i + 1) c9] from HN9.out.set_ 11 _)
    go_upto_region 16 with fail
    generalize w9.setCell ⟨w.heap.size + 1, 11, none⟩ (.slice A9 (i + 1) c9) = wc at *
    clear n11 fn11 ln
    have n10 : wc.cell? ⟨w.heap.size + 1, 10, none⟩ = some (.slice OA_ i OC_) := HNc.out.cell 10
    go_wp2_with (at_builtin; refine OwnL.appendL folOk HKLc.out.occ (2 : Int) wc.heap.size rfl _ _ rfl rfl rfl #[.int .i64 2] rfl rfl HKLc.out.hB (by rw [List.length_map, HVN.out]; have := HPL.out; omega) ?_)
    intro vd wd hod hbd hkd hgd
    have HKLd := LH (HKLc.out.app2 hod hbd hkd hgd)
    have HSVd := LH (HSVc.out.keptL HKLc.out.occ (by decide) hkd)
    have HPCd := LH (HPCc.out.low (hbd.mono (by have := HBW.out; omega)))
    have HBd := LH (HBc.out.trans (hbd.mono (by omega)))
    have HZd := LH (HZc.out.below hbd (by omega))
    have HNd := LH (HNc.out.below hbd (by omega))
    obtain ⟨Ad, cd, ed, -, -⟩ := hod.form
    rw [List.length_append, List.length_singleton, List.length_map, HVN.out] at ed
    subst ed
    clear hod hbd hkd hgd n10
    have n10 : wd.cell? ⟨w.heap.size + 1, 10, none⟩ = some (.slice OA_ i OC_) := HNd.out.cell 10
    have fn10 := HNd.out.frozen 10
    have ln := HNd.out.lt
    have HPBe := LH (PB.set_ (pb := w.heap.size + 1) (w := wd) 10 (.slice Ad (i + 1) cd))
    have HVE := LH (show clV (P.take (i + 1)) f = clV (P.take i) f ++ [((2 : Int), t7)] from HVS.out.trans (congrArg (clV (P.take i) f ++ ·) HV7.out))
    have hpl : P.length ≤ 100000001 := HPL.out
    go_wp2
    go_roundw
    case rel =>
     refine ⟨i + 1, nl ++ [⟨kd, fl, tx, xn, ⟨l1, l2, l3⟩, ⟨r1, r2, r3⟩, ⟨oa, on, oc⟩, ⟨ka, kn, kc⟩⟩], A9, Ad, c9, cd, by go_num, hlt, by rw [List.length_append, HNL.out]; rfl, by rw [HVE.out, List.length_append, HVN.out]; rfl, ?_, HSVd.out.pb HPBe.out (Nat.lt_succ_self _), HPCd.out.low (HPBe.out.below.mono (by have := HBW.out; omega)), HBd.out.trans (HPBe.out.below.mono (Nat.le_succ _)), HZd.out.far (p := ⟨w.heap.size + 1, 10, none⟩) (by show w.heap.size ≠ w.heap.size + 1; omega) _, HNd.out.set_ 10 _⟩
     rw [HVE.out, List.map_append, List.map_append]
     exact HKLd.out.keep HPBe.out (Nat.lt_succ_self _)
    case measure => simp [intOf]; omega
  ·have hie : i = P.length := by have := HIR.out; omega
   have HVE := LH (show clV (P.take i) f = v f from by rw [HPV.out, hie, List.take_length])
   clear hie
   have hzz := HZ.out
   obtain ⟨z0, z1, z2, z3, z4, z5, z6, z7, z8, z9, z10, z11, fz0, fz1, fz2, fz3, fz4, fz5, fz6, fz7, fz8, fz9, fz10, fz11, lz⟩ := blk12 hzz; (try simp only [World.size_alloc] at lz)
   clear hzz
   have hzz := HN.out
   obtain ⟨y0, y1, y2, y3, y4, y5, y6, y7, y8, y9, y10, y11, -, -, -, -, -, -, -, -, -, -, -, -, ly⟩ := blk12 hzz
   clear hzz
   have HTR := LH (show NdR wr (fun b => w.heap.size < b ∧ b < wr.heap.size) ⟨9, [], [], 0, bd0, bd0, ⟨OA_, i, OC_⟩, ⟨KA_, i, KC_⟩⟩ (ndList 0 (v f)) from by
    rw [← HVE.out]
    exact .mk (RdF.of_own HKL.out.occ fun g _ h1 h2 => ⟨by omega, h2⟩) (RdF.of_own HKL.out.own fun g _ h1 h2 => ⟨by omega, h2⟩) HKL.out.trees.1 (fun j x t hx ht => (HKL.out.trees.2 j x t hx ht).mono fun b hb => ⟨by have := hb.1; omega, hb.2.1⟩))
   go_wp2
   refine bodyPost_ret (v := NV.val ⟨9, [], [], 0, bd0, bd0, ⟨OA_, i, OC_⟩, ⟨KA_, i, KC_⟩⟩) ?_ rfl ?_
   ·simp [results, Tryd.results58, go_sem, NV.val, bd0, str, lz, fz0, fz1, fz2, fz3, fz4, fz5, fz6, fz7, fz8, fz9, fz10, fz11, z0, z1, z2, z3, z4, z5, z6, z7, z8, z9, z10, z11]
   ·exact RRet.box HB.out rfl HTR.out (fun b h => h)
end Go.Proofs.YtcomdkejpaoneaaDoor
end
