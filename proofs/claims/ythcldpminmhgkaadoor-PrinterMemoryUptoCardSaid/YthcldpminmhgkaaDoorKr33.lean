/- Merged for a claim by shake.py: Jme Jmf -/
import Derived.Test.YthcldpminmhgkaaDoorKrA
import Derived.Test.YthcldpminmhgkaaDoorKr22
set_option maxRecDepth 100000
set_option maxHeartbeats 4000000
set_option linter.unusedSimpArgs false
set_option linter.unusedVariables false
section
namespace Go.Proofs.YthcldpminmhgkaaDoor
open Go.RowKit
def gkS : Shape SlV := { tS := 48, tE := 25, size := 1, bytes := 24, enc := fun s => [s.val], zero := .slice none 0 0 }
theorem gkOk : gkS.Ok := ⟨by kernel_rfl, by kernel_rfl, rfl, by decide, fun _ => rfl, fun x u hu => by simp [gkS] at hu; subst hu; rfl, by decide⟩
theorem OwnL.diff {α β : Type} {S : Shape α} {T : Shape β} {w : World} {B C : Nat} {u v : Value} {l : List α} {m : List β} (h : OwnL S w B u l) (k : OwnL T w C v m) (hne : S.tE ≠ T.tE) : ∀ b, u.ownBlock = some b → v.ownBlock ≠ some b := fun b e1 e2 => by
 obtain ⟨c1, e3⟩ := own_block h e1
 obtain ⟨c2, e4⟩ := own_block k e2
 rw [e3] at e4
 injection e4 with e4
 injection e4 with _ e4
 exact hne e4
structure Ga (B : Nat) (w : World) (u v : Value) (w' : World) (u' v' : Value) : Prop where
 bel : Below B w w'
 kept : ∀ b, b < w.heap.size → u.ownBlock ≠ some b → v.ownBlock ≠ some b → w'.heap[b]? = w.heap[b]?
 ub : ∀ b, u'.ownBlock = some b → u.ownBlock = some b ∨ w.heap.size ≤ b
 vb : ∀ b, v'.ownBlock = some b → v.ownBlock = some b ∨ w.heap.size ≤ b
section
variable {B : Nat} {w w1 w2 w' : World} {u v u1 v1 u2 v2 u' v' : Value}
theorem Ga.refl (B : Nat) (w : World) (u v : Value) : Ga B w u v w u v := ⟨Below.refl _ _, fun _ _ _ _ => rfl, fun _ h => .inl h, fun _ h => .inl h⟩
theorem Ga.trans (h : Ga B w u v w1 u1 v1) (k : Ga B w1 u1 v1 w2 u2 v2) : Ga B w u v w2 u2 v2 := by
 have hs := h.bel.size
 refine ⟨h.bel.trans k.bel, fun b hb hu hv => ?_, fun b e => ?_, fun b e => ?_⟩
 ·rw [k.kept b (by omega) (fun e => ?_) (fun e => ?_)]
  ·exact h.kept b hb hu hv
  ·rcases h.ub b e with e | e
   ·exact hu e
   ·omega
  ·rcases h.vb b e with e | e
   ·exact hv e
   ·omega
 ·rcases k.ub b e with e | e
  ·exact h.ub b e
  ·exact .inr (by omega)
 ·rcases k.vb b e with e | e
  ·exact h.vb b e
  ·exact .inr (by omega)
theorem Ga.up (h : Ga B w u v w1 u1 v1) (hB : B ≤ w1.heap.size) (hb : Below w1.heap.size w1 w2) : Ga B w u v w2 u1 v1 :=
 h.trans ⟨hb.mono hB, fun b h1 _ _ => hb.block b h1, fun _ h => .inl h, fun _ h => .inl h⟩
theorem Ga.appU {g n c : Nat} (h : Ga B w u v w1 u1 v1) (hB : B ≤ w1.heap.size) (hb : Below B w1 w2) (hk : KeptBut w1 w2 u1) (hg : u1.ownBlock = some g ∨ g = w1.heap.size) : Ga B w u v w2 (.slice (some ⟨g, 0, none⟩) n c) v1 :=
 h.trans ⟨hb, fun b h1 h2 _ => hk b h1 h2, fun b e => by
  injection e with e
  subst e
  exact hg.imp id fun e => Nat.le_of_eq e.symm, fun _ h => .inl h⟩
theorem Ga.appV {g n c : Nat} (h : Ga B w u v w1 u1 v1) (hB : B ≤ w1.heap.size) (hb : Below B w1 w2) (hk : KeptBut w1 w2 v1) (hg : v1.ownBlock = some g ∨ g = w1.heap.size) : Ga B w u v w2 u1 (.slice (some ⟨g, 0, none⟩) n c) :=
 h.trans ⟨hb, fun b h1 _ h2 => hk b h1 h2, fun _ h => .inl h, fun b e => by
  injection e with e
  subst e
  exact hg.imp id fun e => Nat.le_of_eq e.symm⟩
theorem Ga.blk {g : Nat} {t : TypeId} {cs : Array Value} (h : Ga B w u v w' u' v') (hb : Blk w g t cs) (hu : u.ownBlock ≠ some g) (hv : v.ownBlock ≠ some g) : Blk w' g t cs := (h.kept g hb.lt hu hv).trans hb
theorem Ga.own {α : Type} {S : Shape α} {C : Nat} {s : Value} {l : List α} {li lk : List SlV} {D E : Nat} (h : Ga B w u v w' u' v') (hs : OwnL S w C s l) (hu : OwnL goS w D u li) (hv : OwnL gkS w E v lk) (h1 : S.tE ≠ goS.tE) (h2 : S.tE ≠ gkS.tE) : OwnL S w' C s l :=
 hs.same fun b hb => h.kept b (hs.ltB b hb).2 (fun e => hs.diff hu h1 b hb e) (fun e => hs.diff hv h2 b hb e)
theorem Ga.nd {C : Nat} {t : Nd} {x : NV} {is : List SlV} {kss : List (SlV × List NV)} {li lk : List SlV} {D E : Nat} (h : Ga B w u v w' u' v') (hr : NdW w C t x is kss) (hu : OwnL goS w D u li) (hv : OwnL gkS w E v lk) : NdW w' C t x is kss := by
 have hl := NdW.lt _ _ _ _ hr
 refine NdW.keep _ _ _ _ hr (fun s hs b he => ?_) (fun s hs b he => ?_)
 ·obtain ⟨l, ho⟩ := hl.1 s hs
  exact h.kept b (ho.ltB b he).2 (fun e => ho.diff hu (by decide) b he e) (fun e => ho.diff hv (by decide) b he e)
 ·have ho := hl.2 s hs
  exact h.kept b (ho.ltB b he).2 (fun e => ho.diff hu (by decide) b he e) (fun e => ho.diff hv (by decide) b he e)
end
def GaLoop (B Bt : Nat) (w1 : World) (u v : Value) (ks : List Nd) (nl : List NV) (li lk : List SlV) (so sk : SlV) (is : List SlV) (kss : List (SlV × List NV)) (iv uv vv : Value) (wr : World) : Prop :=
 ∃ (j : Nat) (ua : Option Addr) (uc : Nat) (va : Option Addr) (vc : Nat) (is1 is2 : List SlV) (k1 k2 : List (SlV × List NV)), j ≤ ks.length ∧ iv = .int .i64 (j : Int) ∧ uv = .slice ua (li.length + (1 + is1.length)) uc ∧ vv = .slice va (lk.length + (1 + k1.length)) vc ∧ is = is1 ++ is2 ∧ kss = k1 ++ k2 ∧
  NdWs w1 Bt (ks.drop j) (nl.drop j) is2 k2 ∧ OwnL goS wr B uv (li ++ (so :: is1)) ∧ OwnL gkS wr B vv (lk ++ (sk :: k1.map (·.1))) ∧ Ga B w1 u v wr uv vv
theorem NdWs.pop {w : World} {B : Nat} {ts : List Nd} {nl : List NV} {is : List SlV} {kss : List (SlV × List NV)} {j : Nat} (h : NdWs w B (ts.drop j) (nl.drop j) is kss) (hj : j < ts.length) (hjn : j < nl.length) :
  ∃ i1 i2 k1 k2, is = i1 ++ i2 ∧ kss = k1 ++ k2 ∧ NdW w B ts[j] nl[j] i1 k1 ∧ NdWs w B (ts.drop (j + 1)) (nl.drop (j + 1)) i2 k2 := by
 rw [List.drop_eq_getElem_cons hj, List.drop_eq_getElem_cons hjn] at h
 unfold NdWs at h
 obtain ⟨x, nl', i1, i2, k1, k2, e, rfl, rfl, h1, h2⟩ := h
 injection e with e1 e2
 subst e1 e2
 exact ⟨i1, i2, k1, k2, rfl, rfl, h1, h2⟩
theorem NdWs.len {w : World} {B : Nat} : ∀ (ts : List Nd) (nl : List NV) (is : List SlV) (kss : List (SlV × List NV)), NdWs w B ts nl is kss → nl.length = ts.length
 | [], nl, is, kss, h => by
  unfold NdWs at h
  obtain ⟨rfl, rfl, rfl⟩ := h
  rfl
 | t :: ts, nl, is, kss, h => by
  unfold NdWs at h
  obtain ⟨x, nl', i1, i2, k1, k2, rfl, rfl, rfl, h1, h2⟩ := h
  rw [List.length_cons, List.length_cons, NdWs.len ts nl' i2 k2 h2]
theorem NdWs.nil_ {w : World} {B : Nat} {is : List SlV} {kss : List (SlV × List NV)} {nl : List NV} (h : NdWs w B [] nl is kss) : is = [] ∧ kss = [] := by
 unfold NdWs at h
 exact h.2
def GaR (B : Nat) (w : World) (u v : Value) (li lk : List SlV) (e : Ending) (w' : World) : Prop := ∃ (ua : Option Addr) (uc : Nat) (va : Option Addr) (vc : Nat),
 e = .returned (.tuple #[.slice ua li.length uc, .slice va lk.length vc]) ∧ OwnL goS w' B (.slice ua li.length uc) li ∧ OwnL gkS w' B (.slice va lk.length vc) lk ∧ Ga B w u v w' (.slice ua li.length uc) (.slice va lk.length vc)
def GatOk (t : Nd) : Prop := ∀ (w : World) (B Bt : Nat) (x : NV) (is : List SlV) (kss : List (SlV × List NV)) (u v : Value) (li lk : List SlV), NdW w Bt t x is kss → OwnL goS w B u li → OwnL gkS w B v lk → B ≤ w.heap.size → li.length + is.length ≤ 960000000000 → lk.length + kss.length ≤ 960000000000 →
 Calls Tryd.prog 23 #[x.val, u, v] w (GaR B w u v (li ++ is) (lk ++ kss.map (·.1)))
theorem gather_of (kind n : Int) (field text : List UInt8) (lo hi : Bd) (occ : List Int) (ks : List Nd) (ih : ∀ t ∈ ks, GatOk t) : GatOk (.mk kind field text n lo hi occ ks) := by
 intro w B Bt x is kss u v li lk hx hu hv hB hli hlk
 unfold NdW at hx
 obtain ⟨he, nl, is', kss', rfl, rfl, ho, hl, hr⟩ := hx
 obtain ⟨k0, f0, t0, n0, ⟨a1, a2, a3⟩, ⟨b1, b2, b3⟩, ⟨oa, on, oc⟩, ⟨ka, kn, kc⟩⟩ := x
 clear he ho
 unfold slV at *
 simp only [List.map_cons, List.length_cons] at hl hli hlk ⊢
 obtain ⟨U, uc, rfl, hu1, hu2⟩ := hu.form
 obtain ⟨V, vc, rfl, hv1, hv2⟩ := hv.form
 have hkn : kn = nl.length := by obtain ⟨A, c, e, _, _⟩ := OwnL.form hl; injection e
 subst hkn
 have hl : OwnL ndS w Bt (.slice ka nl.length kc) nl := hl
 have HNK := LH (NdWs.len _ _ _ _ hr)
 have hnl : nl.length ≤ 9223372036854775807 := by obtain ⟨A, c, _, h1, h2⟩ := OwnL.form hl; unfold maxLen at h2; omega
 have hba := (Below.refl w.heap.size w).alloc (Nat.le_refl _) (.cells #[.int .i64 k0, .string (str f0), .string (str t0), .int .i64 n0, .bool a1, .bool a2, .string (str a3), .bool b1, .bool b2, .string (str b3), .slice oa on oc, .slice ka nl.length kc] 27)
 have HU := LH (hu.alloc (.cells #[.int .i64 k0, .string (str f0), .string (str t0), .int .i64 n0, .bool a1, .bool a2, .string (str a3), .bool b1, .bool b2, .string (str b3), .slice oa on oc, .slice ka nl.length kc] 27))
 have HV := LH (hv.alloc (.cells #[.int .i64 k0, .string (str f0), .string (str t0), .int .i64 n0, .bool a1, .bool a2, .string (str a3), .bool b1, .bool b2, .string (str b3), .slice oa on oc, .slice ka nl.length kc] 27))
 have HL := LH (hl.below hba)
 have HR := LH (hr.belowW hba)
 have HN := LH (Blk.new w 27 #[.int .i64 k0, .string (str f0), .string (str t0), .int .i64 n0, .bool a1, .bool a2, .string (str a3), .bool b1, .bool b2, .string (str b3), .slice oa on oc, .slice ka nl.length kc])
 have HZU := LH (show (Value.slice U li.length uc).ownBlock ≠ some w.heap.size from fun e => Nat.lt_irrefl _ (hu.ltB _ e).2)
 have HZV := LH (show (Value.slice V lk.length vc).ownBlock ≠ some w.heap.size from fun e => Nat.lt_irrefl _ (hv.ltB _ e).2)
 have HG := LH ((Ga.refl B w (Value.slice U li.length uc) (Value.slice V lk.length vc)).up hB hba)
 have HLI := LH hli; have HLK := LH hlk; have HIH := LH ih
 have hB1 : B ≤ (w.alloc (.cells #[.int .i64 k0, .string (str f0), .string (str t0), .int .i64 n0, .bool a1, .bool a2, .string (str a3), .bool b1, .bool b2, .string (str b3), .slice oa on oc, .slice ka nl.length kc] 27)).heap.size := Nat.le_trans hB hba.size
 have hz1 : w.heap.size < (w.alloc (.cells #[.int .i64 k0, .string (str f0), .string (str t0), .int .i64 n0, .bool a1, .bool a2, .string (str a3), .bool b1, .bool b2, .string (str b3), .slice oa on oc, .slice ka nl.length kc] 27)).heap.size := by rw [World.size_alloc]; exact Nat.lt_succ_self _
 clear hu hv hl hr hba hB ih
 unfold NV.val
 simp only []
 go_enter Tryd.func23, Tryd.ntmps23
 go_upto_region 1 with fail
 generalize w.alloc (.cells #[.int .i64 k0, .string (str f0), .string (str t0), .int .i64 n0, .bool a1, .bool a2, .string (str a3), .bool b1, .bool b2, .string (str b3), .slice oa on oc, .slice ka nl.length kc] 27) = w1 at *
 have HB1 := LH hB1
 have n10 := HN.out.cell 10
 simp only [List.getElem?_toArray, List.getElem?_cons_zero, List.getElem?_cons_succ] at n10
 have ha1 := (Below.refl w1.heap.size w1).alloc (Nat.le_refl _) (.cells #[.slice oa on oc] 24)
 have hB1a : B ≤ (w1.alloc (.cells #[.slice oa on oc] 24)).heap.size := Nat.le_trans hB1 ha1.size
 have hap1 : li.length + 1 ≤ 970000000000 := by omega
 go_upto_region 2 with (at_builtin; (refine OwnL.appendG goS_ok (HU.out.alloc (.cells #[.slice oa on oc] 24)) ⟨oa, on, oc⟩ w1.heap.size rfl _ _ rfl rfl rfl (fun j u hj => by rw [World.cell?_alloc_new]; exact (List.getElem?_toArray).trans hj) hB1a hap1 ?_); (intro g2 d2 w2 ho2 hb2 hk2 hg2 hlt2); (have hga2 := ((Ga.refl B w1 (Value.slice U li.length uc) (Value.slice V lk.length vc)).up hB1 ha1).appU (n := li.length + 1) (c := d2) hB1a hb2 hk2 hg2); (have hv2a := HV.out.below ha1); (have HV2 := LH (hv2a.keptL (HU.out.below ha1) (by decide) hk2)); (have HG2 := LH hga2); (have HU2 := LH ho2); clear ho2 hb2 hk2 hg2 hlt2 hga2 hv2a)
 have hB2 : B ≤ w2.heap.size := Nat.le_trans hB1 HG2.out.bel.size
 have n11 := (HG2.out.blk HN.out HZU.out HZV.out).cell 11
 simp only [List.getElem?_toArray, List.getElem?_cons_zero, List.getElem?_cons_succ] at n11
 have ha2 := (Below.refl w2.heap.size w2).alloc (Nat.le_refl _) (.cells #[.slice ka nl.length kc] 25)
 have hB2a : B ≤ (w2.alloc (.cells #[.slice ka nl.length kc] 25)).heap.size := Nat.le_trans hB2 ha2.size
 have hap2 : lk.length + 1 ≤ 970000000000 := by omega
 clear n10 ha1 hB1a hap1
 go_upto_region 3 with (at_builtin; (refine OwnL.appendG gkOk (HV2.out.alloc (.cells #[.slice ka nl.length kc] 25)) ⟨ka, nl.length, kc⟩ w2.heap.size rfl _ _ rfl rfl rfl (fun j u hj => by rw [World.cell?_alloc_new]; exact (List.getElem?_toArray).trans hj) hB2a hap2 ?_); (intro g3 d3 w3 ho3 hb3 hk3 hg3 hlt3); (have hga3 := (HG2.out.up hB2 ha2).appV (n := lk.length + 1) (c := d3) hB2a hb3 hk3 hg3); (have hu3a := HU2.out.below ha2); (have HU3 := LH (hu3a.keptL (HV2.out.below ha2) (by decide) hk3)); (have HG3 := LH hga3); (have HV3 := LH ho3); clear ho3 hb3 hk3 hg3 hlt3 hga3 hu3a)
 have hB3 : B ≤ w3.heap.size := Nat.le_trans hB1 HG3.out.bel.size
 have n11b := (HG3.out.blk HN.out HZU.out HZV.out).cell 11
 simp only [List.getElem?_toArray, List.getElem?_cons_zero, List.getElem?_cons_succ] at n11b
 clear n11 ha2 hB2a hap2
 go_wp2
 clear n11b
 go_loopw [23, 1, 2] (fun iv uv vv wr => GaLoop B Bt w1 (.slice U li.length uc) (.slice V lk.length vc) ks nl li lk ⟨oa, on, oc⟩ ⟨ka, nl.length, kc⟩ is' kss' iv uv vv wr) (fun iv _ _ _ => ks.length - (intOf iv).toNat)
 case atStart => exact ⟨0, some ⟨g2, 0, none⟩, d2, some ⟨g3, 0, none⟩, d3, [], is', [], kss', Nat.zero_le _, rfl, rfl, rfl, rfl, rfl, HR.out, HU3.out, HV3.out, HG3.out⟩
 case round =>
  clear HU2 HU3 HV2 HV3 HG2 HG3 hB2 hB3
  obtain ⟨j, ua, uc2, va, vc2, is1, is2, k1, k2, hj, rfl, rfl, rfl, rfl, rfl, hrr, hou, hov, hga⟩ := hrel
  have HRR := LH hrr; have HOU := LH hou; have HOV := LH hov; have HGA := LH hga
  have hli2 := HLI.out
  have hlk2 := HLK.out
  rw [List.length_append] at hli2 hlk2
  have hBr : B ≤ wr.heap.size := Nat.le_trans hB1 hga.bel.size
  clear hou hov
  by_cases hlt : j < ks.length
  ·have hjn : j < nl.length := by rw [HNK.out]; exact hlt
   obtain ⟨i1, i2, q1, q2, rfl, rfl, hkid, hrest⟩ := hrr.pop hlt hjn
   rw [List.length_append] at hli2 hlk2
   have hrd := RdF.of_own (F := fun b => b < wr.heap.size) (hga.own HL.out HU.out HV.out (by decide) (by decide)) (fun g _ _ h2 => h2)
   obtain ⟨a, rfl, hab, p0, p1, p2, p3, p4, p5, p6, p7, p8, p9, p10, p11⟩ := kid_cells hrd hjn
   have hih := HIH.out ks[j] (List.getElem_mem hlt)
   have HKID := LH hkid; have HREST := LH hrest
   clear hkid hrest hrd hrr hga HRR
   generalize nl[j] = y at *
   generalize ks[j] = t at *
   obtain ⟨kd3, fl3, tx3, xn3, ⟨la3, lb3, lc3⟩, ⟨ra3, rb3, rc3⟩, ⟨oa3, on3, oc3⟩, ⟨ka3, kn3, kc3⟩⟩ := y
   simp only [] at p0 p1 p2 p3 p4 p5 p6 p7 p8 p9 p10 p11
   have hbk := (Below.refl wr.heap.size wr).alloc (Nat.le_refl _) (.cells #[.int .i64 kd3, .string (str fl3), .string (str tx3), .int .i64 xn3, .bool la3, .bool lb3, .string (str lc3), .bool ra3, .bool rb3, .string (str rc3), .slice oa3 on3 oc3, .slice ka3 kn3 kc3] 27)
   have HY := LH (Blk.new wr 27 #[.int .i64 kd3, .string (str fl3), .string (str tx3), .int .i64 xn3, .bool la3, .bool lb3, .string (str lc3), .bool ra3, .bool rb3, .string (str rc3), .slice oa3 on3 oc3, .slice ka3 kn3 kc3])
   have HGK := LH (HGA.out.up hBr hbk)
   have hBk : B ≤ (wr.alloc (.cells #[.int .i64 kd3, .string (str fl3), .string (str tx3), .int .i64 xn3, .bool la3, .bool lb3, .string (str lc3), .bool ra3, .bool rb3, .string (str rc3), .slice oa3 on3 oc3, .slice ka3 kn3 kc3] 27)).heap.size := Nat.le_trans hBr hbk.size
   have HC := LH (hih _ B Bt _ i1 q1 _ _ _ _ (HGK.out.nd HKID.out HU.out HV.out) (HOU.out.below hbk) (HOV.out.below hbk) hBk (by rw [List.length_append, List.length_cons]; omega) (by rw [List.length_append, List.length_cons, List.length_map]; omega))
   unfold NV.val at HC
   simp only [] at HC
   clear hih HOU HOV HGA hbk
   go_upto_region 6 with fail
   clear p0 p1 p2 p3 p4 p5 p6 p7 p8 p9 p10 p11 hab
   generalize wr.alloc (.cells #[.int .i64 kd3, .string (str fl3), .string (str tx3), .int .i64 xn3, .bool la3, .bool lb3, .string (str lc3), .bool ra3, .bool rb3, .string (str rc3), .slice oa3 on3 oc3, .slice ka3 kn3 kc3] 27) = wk at *
   have yzz := HY.out
   obtain ⟨y0, y1, y2, y3, y4, y5, y6, y7, y8, y9, y10, y11, -, -, -, -, -, -, -, -, -, -, -, -, ly⟩ := blk12 yzz
   clear yzz
   go_wp2_with (refine HC.out.mono ?_; rintro e w6 ⟨ua6, uc6, va6, vc6, rfl, ho6, hv6, hg6⟩)
   have e1 : ((li ++ ({ a := oa, n := on, c := oc } :: is1)) ++ i1) = li ++ ({ a := oa, n := on, c := oc } :: (is1 ++ i1)) := by simp
   have e2 : ((lk ++ ({ a := some a, n := nl.length, c := kc } :: k1.map (·.1))) ++ q1.map (·.1)) = lk ++ ({ a := some a, n := nl.length, c := kc } :: (k1 ++ q1).map (·.1)) := by simp
   have e3 : (li ++ (({ a := oa, n := on, c := oc } : SlV) :: (is1 ++ i1))).length = li.length + (1 + (is1 ++ i1).length) := by rw [List.length_append, List.length_cons]; omega
   have e4 : (lk ++ (({ a := some a, n := nl.length, c := kc } : SlV) :: (k1 ++ q1).map (·.1))).length = lk.length + (1 + (k1 ++ q1).length) := by rw [List.length_append, List.length_cons, List.length_map]; omega
   rw [e1, e3] at ho6 hg6
   rw [e2, e4] at hv6 hg6
   have HU6 := LH ho6; have HV6 := LH hv6; have HG6 := LH (HGK.out.trans hg6)
   clear ho6 hv6 hg6 HGK HC e1 e2 e3 e4 y0 y1 y2 y3 y4 y5 y6 y7 y8 y9 y10 y11 ly
   go_roundw
   case rel =>
    rw [show li.length + (is1.length + i1.length + 1) = li.length + (1 + (is1 ++ i1).length) from by rw [List.length_append]; omega, show lk.length + (k1.length + q1.length + 1) = lk.length + (1 + (k1 ++ q1).length) from by rw [List.length_append]; omega]
    exact ⟨j + 1, ua6, uc6, va6, vc6, is1 ++ i1, i2, k1 ++ q1, q2, hlt, by go_num, rfl, rfl, (List.append_assoc _ _ _).symm, (List.append_assoc _ _ _).symm, HREST.out, HU6.out, HV6.out, HG6.out⟩
   case measure => simp [intOf]; omega
  ·obtain rfl : j = ks.length := by omega
   rw [List.drop_length] at hrr
   obtain ⟨rfl, rfl⟩ := hrr.nil_
   have hjn : (ks.length : Int) = (nl.length : Int) := by rw [HNK.out]
   have HGF := LH (HG.out.trans HGA.out)
   clear hrr hga HRR HGA
   go_wp2
   refine bodyPost_ret (v := .tuple #[.slice ua (li.length + (1 + is1.length)) uc2, .slice va (lk.length + (1 + k1.length)) vc2]) (by simp [results, Tryd.results23, go_sem]) rfl ?_
   have e3 : (li ++ (({ a := oa, n := on, c := oc } : SlV) :: (is1 ++ []))).length = li.length + (1 + is1.length) := by rw [List.length_append, List.length_cons, List.append_nil]; omega
   have e4 : (lk ++ (({ a := ka, n := nl.length, c := kc } : SlV) :: (k1 ++ []).map (fun z : SlV × List NV => z.1))).length = lk.length + (1 + k1.length) := by rw [List.length_append, List.length_cons, List.length_map, List.append_nil]; omega
   refine ⟨ua, uc2, va, vc2, ?_, ?_, ?_, ?_⟩
   ·rw [e3, e4]
   ·rw [e3, List.append_nil]; exact HOU.out
   ·rw [e4, List.append_nil]; exact HOV.out
   ·rw [e3, e4]; exact HGF.out
theorem gather_any (t : Nd) : GatOk t := nd_ind gather_of t
end Go.Proofs.YthcldpminmhgkaaDoor
end
