/- Merged for a claim by shake.py: Ui Ch -/
import Derived.Test.YthcldpminmhgkaaDoorKxA
import Derived.Test.YthcldpminmhgkaaDoorKx16
import Derived.Test.YthcldpminmhgkaaDoorKx8
set_option maxRecDepth 100000
set_option maxHeartbeats 8000000
set_option linter.unusedSimpArgs false
set_option linter.unusedVariables false
section
namespace Go.Proofs.YthcldpminmhgkaaDoor
open Go.RowKit
theorem RdF.kid {w : World} {F : Nat → Prop} {g : Nat} {x : NV} (h : Blk w g 27 x.cells.toArray) (hF : F g) : RdF ndS w F ⟨some ⟨g, 0, none⟩, 1, 1⟩ [x] := by
 refine ⟨rfl, Nat.le_refl _, (by unfold maxLen; show 1 ≤ _; omega), fun _ => ⟨_, rfl, hF, fun j u hu => ?_⟩, fun h => by cases h⟩
 have e : ndS.cells [x] = x.cells := by simp [Shape.cells, ndS]
 rw [e] at hu
 rw [show (⟨g, 0, none⟩ : Addr).add j = ⟨g, j, none⟩ from by unfold Addr.add; split <;> simp_all, h.cell j]
 simpa using hu
theorem NdRs.one {w : World} {F : Nat → Prop} {x : NV} {t : Nd} (h : NdR w F x t) : NdRs w F [x] [t] := (NdRs.nil w F).snoc h
theorem nd_kid {w : World} {F : Nat → Prop} {g : Nat} {kd n : Int} {x : NV} {t : Nd} (h : Blk w g 27 x.cells.toArray) (hF : F g) (hx : NdR w F x t) : NdR w F ⟨kd, [], [], n, bd0, bd0, ⟨none, 0, 0⟩, ⟨some ⟨g, 0, none⟩, 1, 1⟩⟩ (ndKids kd n [t]) :=
 .mk (RdF.nil _ _ _) (RdF.kid h hF) rfl (NdRs.one hx).2
theorem set12_alloc {w : World} {o : Obj} {z : Nat} {x : NV} (hz : z < w.heap.size) : (set12 w z x).alloc o = set12 (w.alloc o) z x := by
 unfold set12
 simp only [World.setCell_alloc_past, set_size, hz]
theorem PtRet.treeA {pb : Nat} {A : Option Addr} {cap k k2 : Nat} {ts : List Lt} {v : List (Int × Nd)} {w W : World} {o : Obj} {x : NV} {t : Nd} {F : Nat → Prop} (hz : w.heap.size < W.heap.size) (hp : pb < w.heap.size) (hb : PB pb w (W.alloc o)) (hs : PsAt (W.alloc o) pb A cap ts k2) (hk : k2 = k) (hv : v = [(0, t)]) (hx : NdR (W.alloc o) F x t) (hF : ∀ b, F b → w.heap.size < b ∧ b < (W.alloc o).heap.size) :
  PtRet pb A cap ts k v w (.returned x.val) ((set12 W w.heap.size x).alloc o) := by
 rw [set12_alloc hz]
 exact PtRet.tree hp hb hs hk hv hx hF
def sfxK (b : Lt) : Int := if b.kind = 19 then 15 else 14
def sfxT (t : Nd) (S : List Lt) : Nd := S.foldl (fun t b => ndKids (sfxK b) b.n [t]) t
theorem sfxT_snoc (t : Nd) (S : List Lt) (b : Lt) : sfxT t (S ++ [b]) = ndKids (sfxK b) b.n [sfxT t S] := by unfold sfxT; rw [List.foldl_append]; rfl
theorem piece_split {A : List Lt} {n : Nat} {v : Vl} (h : D .piece A n v) : ∃ A0 n0 v0 S, D .atom A0 n0 v0 ∧ A = A0 ++ S ∧ (∀ b ∈ S, b.kind = 18 ∨ b.kind = 19) ∧ ∀ f t, v0 f = [(0, t)] → v f = [(0, sfxT t S)] := by
 generalize hp : Pt.piece = p at h
 induction h with
 | atomP h _ => exact ⟨_, _, _, [], h, by simp, fun _ h => (by cases h), fun f t h => h⟩
 | @sfx b A' n' v' h hb ih =>
  obtain ⟨A0, n0, v0, S, h1, h2, h3, h4⟩ := ih rfl
  refine ⟨A0, n0, v0, S ++ [b], h1, by rw [h2, List.append_assoc], fun b hm => ?_, fun f t ht => ?_⟩
  ·rcases List.mem_append.1 hm with hm | hm
   ·exact h3 b hm
   ·rw [List.mem_singleton.1 hm]; exact hb
  ·rw [sfxT_snoc]
   show [((0 : Int), ndKids (if b.kind = 19 then 15 else 14) b.n ((v' f).map (·.2)))] = _
   rw [h4 f t ht]; rfl
 | _ => cases hp
theorem punary_not (w : World) (pb : Nat) (PA : Option Addr) (cap : Nat) (ts : List Lt) (k : Nat) (f : List UInt8) (h : PsAt w pb PA cap ts k) (hok : TkOk ts) (M : Nat) (hU : UnOk pb PA cap ts M) (t : Lt) (A : List Lt) (n : Nat) (v : Vl) (post : List Lt) (hD : D .unary A n v) (hlen : A.length < M) (ht : t.kind = 6) (hd : ts.drop k = (t :: A) ++ post) (hp : Hd post [14, 20, 21, 18, 19]) :
  Calls Tryd.prog 66 #[.pointer (some ⟨pb, 0, none⟩), .string (str f)] w (PtRet pb PA cap ts (k + (t :: A).length) [(0, ndKids 13 0 ((v f).map (·.2)))] w) := by
 have h0 : ts[k]? = some t := tk_at (j := 0) hd rfl
 have HK6 := LH (show decide (t.kind = 6) = true from decide_eq_true ht)
 have HDA := LH (show ts.drop (k + 1) = A ++ post from dropk (X := [t]) hd)
 have HD0 := LH hD; have HPP := LH hp
 clear hD ht hd hp
 have HLT := LH h.lt
 have hl : ts.length ≤ 920000000000 := by have := hok.1; omega
 have HA1 := LH (h.alloc zO)
 have HZ1 := LH (Blk.new w 27 zA)
 have HB1 := LH (PB.of (pb := pb) ((Below.refl w.heap.size w).alloc (Nat.le_refl _) zO) (Nat.le_of_lt h.lt))
 clear h
 go_enter Tryd.func66, Tryd.ntmps66
 go_upto_region 1 with (fail)
 generalize w.alloc zO = w1 at *
 go_wp2_with fail
 refine (ptakes_at 6 HA1.out h0 hl).mono ?_
 rintro e w2 ⟨rfl, hbt, hpt⟩
 rw [HK6.out] at hpt ⊢
 simp only [Bool.false_eq_true, if_false, if_true] at hpt
 have HP2 := LH hpt; have HB2 := LH (HB1.out.trans hbt); have HZ2 := LH (HZ1.out.zpb hbt HLT.out)
 clear hbt hpt
 go_wp2_with fail
 refine (hU A n v HD0.out hlen w2 (k + 1) f post HDA.out HPP.out HP2.out).mono ?_
 rintro e w5 ⟨hb5, hp5, x, t5, rfl, hv, hx⟩
 obtain ⟨kd, fl, tx, xn, ⟨l1, l2, l3⟩, ⟨r1, r2, r3⟩, ⟨oa, on, oc⟩, ⟨ka, kn, kc⟩⟩ := x
 unfold NV.val
 simp only []
 have HV := LH (show [((0 : Int), ndKids 13 0 ((v f).map (·.2)))] = [(0, ndKids 13 0 [t5])] from by rw [hv]; rfl)
 have HB6 := LH ((HB2.out.trans hb5).alloc (Nat.le_of_lt HLT.out) (.cells #[.int .i64 kd, .string (str fl), .string (str tx), .int .i64 xn, .bool l1, .bool l2, .string (str l3), .bool r1, .bool r2, .string (str r3), .slice oa on oc, .slice ka kn kc] 27))
 have HP6 := LH (hp5.alloc (.cells #[.int .i64 kd, .string (str fl), .string (str tx), .int .i64 xn, .bool l1, .bool l2, .string (str l3), .bool r1, .bool r2, .string (str r3), .slice oa on oc, .slice ka kn kc] 27))
 have HZ6 := LH ((HZ2.out.zpb hb5 HLT.out).alloc (.cells #[.int .i64 kd, .string (str fl), .string (str tx), .int .i64 xn, .bool l1, .bool l2, .string (str l3), .bool r1, .bool r2, .string (str r3), .slice oa on oc, .slice ka kn kc] 27))
 have HX6 := LH (show Blk (w5.alloc (.cells #[.int .i64 kd, .string (str fl), .string (str tx), .int .i64 xn, .bool l1, .bool l2, .string (str l3), .bool r1, .bool r2, .string (str r3), .slice oa on oc, .slice ka kn kc] 27)) w5.heap.size 27 (NV.cells ⟨kd, fl, tx, xn, ⟨l1, l2, l3⟩, ⟨r1, r2, r3⟩, ⟨oa, on, oc⟩, ⟨ka, kn, kc⟩⟩).toArray from Blk.new w5 _ _)
 have HZ5 := LH (HZ2.out.zpb hb5 HLT.out)
 have HS := LH (And.intro HZ2.out.lt hb5.size)
 have HG6 := LH (show w5.heap.size < (w5.alloc (.cells #[.int .i64 kd, .string (str fl), .string (str tx), .int .i64 xn, .bool l1, .bool l2, .string (str l3), .bool r1, .bool r2, .string (str r3), .slice oa on oc, .slice ka kn kc] 27)).heap.size from by rw [World.size_alloc]; omega)
 have HN6 := LH ((hx.belowW ((Below.refl w5.heap.size w5).alloc (Nat.le_refl _) (.cells #[.int .i64 kd, .string (str fl), .string (str tx), .int .i64 xn, .bool l1, .bool l2, .string (str l3), .bool r1, .bool r2, .string (str r3), .slice oa on oc, .slice ka kn kc] 27))).mono (G := fun b => w.heap.size < b ∧ b < (w5.alloc (.cells #[.int .i64 kd, .string (str fl), .string (str tx), .int .i64 xn, .bool l1, .bool l2, .string (str l3), .bool r1, .bool r2, .string (str r3), .slice oa on oc, .slice ka kn kc] 27)).heap.size) (fun b h => ⟨Nat.lt_of_lt_of_le HS.out.1 h.1, Nat.lt_trans h.2 HG6.out⟩))
 clear hb5 hp5 hx hv
 have hzz := HZ5.out
 obtain ⟨z0, z1, z2, z3, z4, z5, z6, z7, z8, z9, z10, z11, fz0, fz1, fz2, fz3, fz4, fz5, fz6, fz7, fz8, fz9, fz10, fz11, lz⟩ := blk12 hzz
 clear hzz
 go_wp2
 refine bodyPost_ret (v := NV.val ⟨13, [], [], 0, bd0, bd0, ⟨none, 0, 0⟩, ⟨some ⟨w5.heap.size, 0, none⟩, 1, 1⟩⟩) ?_ rfl ?_
 ·simp [results, Tryd.results66, go_sem, NV.val, bd0, str, lz, fz0, fz1, fz2, fz3, fz4, fz5, fz6, fz7, fz8, fz9, fz10, fz11, z0, z1, z2, z3, z4, z5, z6, z7, z8, z9, z10, z11]
 ·exact PtRet.treeA (F := fun b => w.heap.size < b ∧ b < (w5.alloc (.cells #[.int .i64 kd, .string (str fl), .string (str tx), .int .i64 xn, .bool l1, .bool l2, .string (str l3), .bool r1, .bool r2, .string (str r3), .slice oa on oc, .slice ka kn kc] 27)).heap.size) (Nat.lt_of_lt_of_le HS.out.1 HS.out.2) HLT.out HB6.out HP6.out (by (try simp only [List.length_cons]); omega) HV.out (nd_kid HX6.out ⟨Nat.lt_of_lt_of_le HS.out.1 HS.out.2, HG6.out⟩ HN6.out) (fun b h => h)
theorem atom_hd {A : List Lt} {n : Nat} {v : Vl} (h : D .atom A n v) : ∃ t r, A = t :: r ∧ t.kind ≠ 6 := by
 cases h with
 | bodyA hb =>
  cases hb with
  | leafB hl => cases hl <;> exact ⟨_, _, rfl, by omega⟩
  | groupB hg => cases hg <;> exact ⟨_, _, rfl, by omega⟩
 | field h1 _ _ => exact ⟨_, _, rfl, by omega⟩
 | all h1 _ _ => exact ⟨_, _, rfl, by simp [starT] at h1; omega⟩
theorem Blk.set12 {w : World} {z : Nat} {x y : NV} (h : Blk w z 27 x.cells.toArray) : Blk (set12 w z y) z 27 y.cells.toArray := by
 have h2 := (((((((((((h.set_ 0 (.int .i64 y.kind)).set_ 1 (.string (str y.field))).set_ 2 (.string (str y.text))).set_ 3 (.int .i64 y.n)).set_ 4 (.bool y.lo.open_)).set_ 5 (.bool y.lo.in_)).set_ 6 (.string (str y.lo.text))).set_ 7 (.bool y.hi.open_)).set_ 8 (.bool y.hi.in_)).set_ 9 (.string (str y.hi.text))).set_ 10 (.slice y.occ.a y.occ.n y.occ.c)).set_ 11 (.slice y.kids.a y.kids.n y.kids.c)
 simp only [NV.cells, List.setIfInBounds_toArray, List.set_cons_zero, List.set_cons_succ] at h2 ⊢
 exact h2
theorem Blk.off12 {w : World} {z g : Nat} {t : TypeId} {cs : Array Value} {y : NV} (h : Blk w g t cs) (hn : g ≠ z) : Blk (Go.Proofs.YthcldpminmhgkaaDoor.set12 w z y) g t cs := by
 unfold Blk at h ⊢
 rw [set12_block hn]; exact h
def UnF (w : World) (n5 : Nat) (wr : World) : Nat → Prop := fun b => w.heap.size < b ∧ b < wr.heap.size ∧ b ≠ n5
def UnRel (w : World) (pb : Nat) (PA : Option Addr) (cap : Nat) (ts : List Lt) (k0 n5 : Nat) (t0 : Nd) (S : List Lt) (gh : Nat) (wr : World) : Prop :=
 ∃ (j : Nat) (x : NV), gh = S.length - j ∧ j ≤ S.length ∧ PsAt wr pb PA cap ts (k0 + j) ∧ Blk wr n5 27 x.cells.toArray ∧ NdR wr (UnF w n5 wr) x (sfxT t0 (S.take j)) ∧ PB pb w wr ∧ Blk wr w.heap.size 27 zA
theorem UnRel.step {w : World} {pb : Nat} {PA : Option Addr} {cap : Nat} {ts : List Lt} {k0 n5 j : Nat} {t0 : Nd} {S : List Lt} {w8 : World} {x : NV} {b : Lt} (hb : S[j]? = some b) (hw : w.heap.size < n5) (hp : pb < w.heap.size) (h1 : PsAt w8 pb PA cap ts (k0 + j + 1)) (h2 : Blk w8 n5 27 x.cells.toArray) (h3 : NdR w8 (UnF w n5 w8) x (sfxT t0 (S.take j))) (h4 : PB pb w w8) (h5 : Blk w8 w.heap.size 27 zA) :
  UnRel w pb PA cap ts k0 n5 t0 S (S.length - (j + 1)) ((set12 w8 n5 ⟨sfxK b, [], [], b.n, bd0, bd0, ⟨none, 0, 0⟩, ⟨some ⟨w8.heap.size, 0, none⟩, 1, 1⟩⟩).alloc (.cells x.cells.toArray 27)) := by
 have hlt := h2.lt
 rw [set12_alloc hlt]
 have hj := (List.getElem?_eq_some_iff.1 hb)
 obtain ⟨hjl, hjb⟩ := hj
 have hsz : (w8.alloc (.cells x.cells.toArray 27)).heap.size = w8.heap.size + 1 := World.size_alloc _ _
 refine ⟨j + 1, _, rfl, hjl, (h1.alloc _).set12 (by omega), (h2.alloc _).set12, ?_, (h4.alloc (Nat.le_of_lt hp) _).set12 (Nat.le_of_lt hp) (Nat.le_of_lt hw), (h5.alloc _).off12 (by omega)⟩
 have hT : sfxT t0 (S.take (j + 1)) = ndKids (sfxK b) b.n [sfxT t0 (S.take j)] := by
  rw [List.take_succ_eq_append_getElem hjl, sfxT_snoc, hjb]
 rw [hT]
 have hB : Below w8.heap.size w8 (w8.alloc (.cells x.cells.toArray 27)) := (Below.refl _ _).alloc (Nat.le_refl _) _
 have hx := (h3.belowW hB).mono (G := UnF w n5 (set12 (w8.alloc (.cells x.cells.toArray 27)) n5 ⟨sfxK b, [], [], b.n, bd0, bd0, ⟨none, 0, 0⟩, ⟨some ⟨w8.heap.size, 0, none⟩, 1, 1⟩⟩)) (fun c hc => ⟨hc.1, by rw [set12_size, hsz]; have := hc.2.1; omega, hc.2.2⟩)
 exact (nd_kid (Blk.new w8 _ _) (by refine ⟨by have := h5.lt; omega, ?_, by omega⟩; rw [set12_size, hsz]; omega) hx).set12 (fun c hc => hc.2.2)
theorem punary_piece (w : World) (pb : Nat) (PA : Option Addr) (cap : Nat) (ts : List Lt) (k : Nat) (f : List UInt8) (h : PsAt w pb PA cap ts k) (hok : TkOk ts) (M : Nat) (hAt : AtOk pb PA cap ts M) (A : List Lt) (n : Nat) (v : Vl) (post : List Lt) (hD : D .piece A n v) (hlen : A.length < M) (hd : ts.drop k = A ++ post) (hp : Hd post [14, 20, 21, 18, 19]) :
  Calls Tryd.prog 66 #[.pointer (some ⟨pb, 0, none⟩), .string (str f)] w (PtRet pb PA cap ts (k + A.length) (v f) w) := by
 obtain ⟨A0, n0, v0, S, hD0, rfl, hS, hvS⟩ := piece_split hD
 obtain ⟨t, r, hA0, ht6⟩ := atom_hd hD0
 have h0 : ts[k]? = some t := tk_at (j := 0) hd (by rw [hA0]; rfl)
 have HK6 := LH (show decide (t.kind = 6) = false from decide_eq_false ht6)
 have HDA := LH (show ts.drop k = A0 ++ (S ++ post) from by rw [hd, List.append_assoc])
 have HPP := LH (show Hd (S ++ post) [14, 20, 21] from by
  cases S with
  | nil => exact hp.less (by decide)
  | cons b s => exact ⟨b, _, rfl, by rcases hS b List.mem_cons_self with h | h <;> rw [h] <;> decide⟩)
 have HSD := LH (show ts.drop (k + A0.length) = S ++ post from dropk HDA.out)
 have HL0 := LH (show A0.length < M from by rw [List.length_append] at hlen; omega)
 have HKL := LH (show k + (A0 ++ S).length = k + A0.length + S.length from by rw [List.length_append]; omega)
 rw [HKL.out]
 have HD0 := LH hD0; have HSS := LH hS; have HVS := LH hvS; have HPO := LH hp
 clear hD hD0 hS hvS hd hp hlen hA0 ht6
 have HLT := LH h.lt
 have hl : ts.length ≤ 920000000000 := by have := hok.1; omega
 have HA1 := LH (h.alloc zO)
 have HZ1 := LH (Blk.new w 27 zA)
 have HB1 := LH (PB.of (pb := pb) ((Below.refl w.heap.size w).alloc (Nat.le_refl _) zO) (Nat.le_of_lt h.lt))
 clear h
 go_enter Tryd.func66, Tryd.ntmps66
 go_upto_region 1 with (fail)
 generalize w.alloc zO = w1 at *
 go_wp2_with fail
 refine (ptakes_at 6 HA1.out h0 hl).mono ?_
 rintro e w2 ⟨rfl, hbt, hpt⟩
 rw [HK6.out] at hpt ⊢
 simp only [Bool.false_eq_true, if_false, if_true] at hpt
 have HP2 := LH hpt; have HB2 := LH (HB1.out.trans hbt); have HZ2 := LH (HZ1.out.zpb hbt HLT.out)
 clear hbt hpt
 go_wp2_with fail
 refine (hAt A0 n0 v0 HD0.out HL0.out w2 k f (S ++ post) HDA.out HPP.out HP2.out).mono ?_
 rintro e w5 ⟨hb5, hp5, x, t5, rfl, hv, hx⟩
 obtain ⟨kd, fl, tx, xn, ⟨l1, l2, l3⟩, ⟨r1, r2, r3⟩, ⟨oa, on, oc⟩, ⟨ka, kn, kc⟩⟩ := x
 unfold NV.val
 simp only []
 have HV := LH (HVS.out f t5 hv)
 have HZ5 := LH (HZ2.out.zpb hb5 HLT.out)
 have HNW := LH (show w.heap.size < w5.heap.size from HZ5.out.lt)
 have HR0 := LH (show UnRel w pb PA cap ts (k + A0.length) w5.heap.size t5 S S.length (w5.alloc (.cells #[.int .i64 kd, .string (str fl), .string (str tx), .int .i64 xn, .bool l1, .bool l2, .string (str l3), .bool r1, .bool r2, .string (str r3), .slice oa on oc, .slice ka kn kc] 27)) from by
  have hB : Below w5.heap.size w5 (w5.alloc (.cells #[.int .i64 kd, .string (str fl), .string (str tx), .int .i64 xn, .bool l1, .bool l2, .string (str l3), .bool r1, .bool r2, .string (str r3), .slice oa on oc, .slice ka kn kc] 27)) := (Below.refl _ _).alloc (Nat.le_refl _) _
  refine ⟨0, ⟨kd, fl, tx, xn, ⟨l1, l2, l3⟩, ⟨r1, r2, r3⟩, ⟨oa, on, oc⟩, ⟨ka, kn, kc⟩⟩, rfl, Nat.zero_le _, hp5.alloc _, Blk.new w5 _ _, ?_, (HB2.out.trans hb5).alloc (Nat.le_of_lt HLT.out) _, HZ5.out.alloc _⟩
  refine (hx.belowW hB).mono fun b h => ⟨Nat.lt_of_lt_of_le HZ2.out.lt h.1, ?_, Nat.ne_of_lt h.2⟩
  rw [World.size_alloc]; have := h.2; omega)
 clear hb5 hp5 hx hv
 go_wp2
 go_loopg [] (S.length) (fun gh wr => UnRel w pb PA cap ts (k + A0.length) w5.heap.size t5 S gh wr)
 case atStart => exact HR0.out
 case round =>
  obtain ⟨wo, rfl⟩ : ∃ wo : World, wo = wr := ⟨_, rfl⟩
  obtain ⟨j, ⟨kd, fl, tx, xn, ⟨l1, l2, l3⟩, ⟨r1, r2, r3⟩, ⟨oa, on, oc⟩, ⟨ka, kn, kc⟩⟩, hgh, hj, hps, hbx, hnx, hpb, hz⟩ := hrel
  have HGH := LH hgh; have HPS := LH hps; have HBX := LH hbx; have HNX := LH hnx; have HPB := LH hpb; have HZ := LH hz
  clear hgh hps hbx hnx hpb hz
  by_cases hlt : j < S.length
  ·obtain ⟨b, hb⟩ : ∃ b, S[j]? = some b := ⟨_, List.getElem?_eq_getElem hlt⟩
   have HB := LH hb
   have hbt : ts[k + A0.length + j]? = some b := tk_at HSD.out j (by rw [List.getElem?_append_left hlt]; exact hb)
   have HBT := LH hbt
   have hbk := HSS.out b (List.mem_of_getElem? hb)
   obtain ⟨bk, bx, bn, ba, be⟩ := b
   have hbk2 : bk = 18 ∨ bk = 19 := hbk
   have HNEW := LH (show S.length - (j + 1) < S.length - j from by omega)
   clear hb hbt hbk
   have hcase : (bk == 18) = true ∧ bk = 18 ∨ (bk == 18) = false ∧ (bk == 19) = true ∧ bk = 19 := by
    rcases hbk2 with rfl | rfl
    ·left; exact ⟨rfl, rfl⟩
    ·right; exact ⟨rfl, rfl, rfl⟩
   clear hbk2
   rcases hcase with ⟨e18, hbk⟩ | ⟨e18, e19, hbk⟩
   ·skip
    have HK := LH (show sfxK ⟨bk, bx, bn, ba, be⟩ = 14 from by unfold sfxK; simp only []; rw [hbk]; rfl)
    have e19t : ((bk : Int) == 19) = false := by rw [hbk]; rfl
    clear hbk
    go_wp2_with fail
    refine (pkind_at HPS.out HBT.out hl).mono ?_
    rintro e w6 ⟨rfl, hb6, hs6⟩
    have HP6 := LH (HPS.out.belowW hb6); have HB6 := LH (HPB.out.trans (PB.of hb6 (Nat.le_of_lt HPS.out.lt))); have HX6 := LH (HBX.out.belowW hb6); have HZ6 := LH (HZ.out.belowW hb6)
    have HN6 := LH ((HNX.out.belowW hb6).mono (G := UnF w w5.heap.size w6) (fun c hc => ⟨hc.1, Nat.lt_of_lt_of_le hc.2.1 hb6.size, hc.2.2⟩))
    clear hb6 hs6
    go_wp2_with fail
    refine (pnext_at HP6.out HBT.out hl).mono ?_
    rintro e w8 ⟨rfl, hb8, hp8⟩
    unfold ltVal
    simp only []
    have hB9 : Below w8.heap.size w8 (w8.alloc (.cells #[.int .i64 bk, .string (str bx), .int .i64 bn, .int .i64 ba, .int .i64 be] 74)) := (Below.refl _ _).alloc (Nat.le_refl _) _
    have HP9 := LH (hp8.alloc (.cells #[.int .i64 bk, .string (str bx), .int .i64 bn, .int .i64 ba, .int .i64 be] 74)); have HB9 := LH ((HB6.out.trans hb8).alloc (Nat.le_of_lt HLT.out) (.cells #[.int .i64 bk, .string (str bx), .int .i64 bn, .int .i64 ba, .int .i64 be] 74))
    have hn5 : pb < w5.heap.size := Nat.lt_trans HLT.out HNW.out
    have HX9 := LH ((HX6.out.zpb hb8 hn5).alloc (.cells #[.int .i64 bk, .string (str bx), .int .i64 bn, .int .i64 ba, .int .i64 be] 74)); have HZ9 := LH ((HZ6.out.zpb hb8 HLT.out).alloc (.cells #[.int .i64 bk, .string (str bx), .int .i64 bn, .int .i64 ba, .int .i64 be] 74))
    have HN9 := LH (((HN6.out.pb hb8 (fun c hc => by have := hc.1; have := HLT.out; omega)).belowW hB9).mono (G := UnF w w5.heap.size (w8.alloc (.cells #[.int .i64 bk, .string (str bx), .int .i64 bn, .int .i64 ba, .int .i64 be] 74))) (fun c hc => ⟨hc.1, Nat.lt_of_lt_of_le hc.2.1 (Nat.le_trans hb8.size hB9.size), hc.2.2⟩))
    have HT9 := LH (Blk.new w8 74 #[.int .i64 bk, .string (str bx), .int .i64 bn, .int .i64 ba, .int .i64 be])
    clear hb8 hp8 hB9
    go_upto_region 6 with (fail)
    generalize w8.alloc (.cells #[.int .i64 bk, .string (str bx), .int .i64 bn, .int .i64 ba, .int .i64 be] 74) = w9 at *
    have t0 := HT9.out.cell 0; have t2 := HT9.out.cell 2; have lt9 := HT9.out.lt
    have hxx := HX9.out
    have x0 := hxx.cell 0; have x1 := hxx.cell 1; have x2 := hxx.cell 2; have x3 := hxx.cell 3; have x4 := hxx.cell 4; have x5 := hxx.cell 5; have x6 := hxx.cell 6; have x7 := hxx.cell 7; have x8 := hxx.cell 8; have x9 := hxx.cell 9; have x10 := hxx.cell 10; have x11 := hxx.cell 11; have lx := hxx.lt
    have fx0 := hxx.frozen 0; have fx1 := hxx.frozen 1; have fx2 := hxx.frozen 2; have fx3 := hxx.frozen 3; have fx4 := hxx.frozen 4; have fx5 := hxx.frozen 5; have fx6 := hxx.frozen 6; have fx7 := hxx.frozen 7; have fx8 := hxx.frozen 8; have fx9 := hxx.frozen 9; have fx10 := hxx.frozen 10; have fx11 := hxx.frozen 11
    unfold NV.cells at x0 x1 x2 x3 x4 x5 x6 x7 x8 x9 x10 x11
    simp only [List.getElem?_toArray, List.getElem?_cons_zero, List.getElem?_cons_succ] at t0 t2 x0 x1 x2 x3 x4 x5 x6 x7 x8 x9 x10 x11
    clear hxx hn5
    have HST := LH (UnRel.step HB.out HNW.out HLT.out HP9.out HX9.out HN9.out HB9.out HZ9.out)
    rw [HK.out] at HST
    go_wp2
    go_roundg (S.length - (j + 1))
    case measure => rw [HGH.out]; exact HNEW.out
    case rel => exact HST.out
   ·skip
    have HK := LH (show sfxK ⟨bk, bx, bn, ba, be⟩ = 15 from by unfold sfxK; simp only []; rw [hbk]; rfl)
    have e19t : ((bk : Int) == 19) = true := by rw [hbk]; rfl
    clear hbk
    go_wp2_with fail
    refine (pkind_at HPS.out HBT.out hl).mono ?_
    rintro e w6 ⟨rfl, hb6, hs6⟩
    have HP6 := LH (HPS.out.belowW hb6); have HB6 := LH (HPB.out.trans (PB.of hb6 (Nat.le_of_lt HPS.out.lt))); have HX6 := LH (HBX.out.belowW hb6); have HZ6 := LH (HZ.out.belowW hb6)
    have HN6 := LH ((HNX.out.belowW hb6).mono (G := UnF w w5.heap.size w6) (fun c hc => ⟨hc.1, Nat.lt_of_lt_of_le hc.2.1 hb6.size, hc.2.2⟩))
    clear hb6 hs6
    go_wp2_with fail
    refine (pkind_at HP6.out HBT.out hl).mono ?_
    rintro e w7 ⟨rfl, hb7, hs7⟩
    have HP7 := LH (HP6.out.belowW hb7); have HB7 := LH (HB6.out.trans (PB.of hb7 (Nat.le_of_lt HP6.out.lt))); have HX7 := LH (HX6.out.belowW hb7); have HZ7 := LH (HZ6.out.belowW hb7)
    have HN7 := LH ((HN6.out.belowW hb7).mono (G := UnF w w5.heap.size w7) (fun c hc => ⟨hc.1, Nat.lt_of_lt_of_le hc.2.1 hb7.size, hc.2.2⟩))
    clear hb7 hs7
    go_wp2_with fail
    refine (pnext_at HP7.out HBT.out hl).mono ?_
    rintro e w8 ⟨rfl, hb8, hp8⟩
    unfold ltVal
    simp only []
    have hB9 : Below w8.heap.size w8 (w8.alloc (.cells #[.int .i64 bk, .string (str bx), .int .i64 bn, .int .i64 ba, .int .i64 be] 74)) := (Below.refl _ _).alloc (Nat.le_refl _) _
    have HP9 := LH (hp8.alloc (.cells #[.int .i64 bk, .string (str bx), .int .i64 bn, .int .i64 ba, .int .i64 be] 74)); have HB9 := LH ((HB7.out.trans hb8).alloc (Nat.le_of_lt HLT.out) (.cells #[.int .i64 bk, .string (str bx), .int .i64 bn, .int .i64 ba, .int .i64 be] 74))
    have hn5 : pb < w5.heap.size := Nat.lt_trans HLT.out HNW.out
    have HX9 := LH ((HX7.out.zpb hb8 hn5).alloc (.cells #[.int .i64 bk, .string (str bx), .int .i64 bn, .int .i64 ba, .int .i64 be] 74)); have HZ9 := LH ((HZ7.out.zpb hb8 HLT.out).alloc (.cells #[.int .i64 bk, .string (str bx), .int .i64 bn, .int .i64 ba, .int .i64 be] 74))
    have HN9 := LH (((HN7.out.pb hb8 (fun c hc => by have := hc.1; have := HLT.out; omega)).belowW hB9).mono (G := UnF w w5.heap.size (w8.alloc (.cells #[.int .i64 bk, .string (str bx), .int .i64 bn, .int .i64 ba, .int .i64 be] 74))) (fun c hc => ⟨hc.1, Nat.lt_of_lt_of_le hc.2.1 (Nat.le_trans hb8.size hB9.size), hc.2.2⟩))
    have HT9 := LH (Blk.new w8 74 #[.int .i64 bk, .string (str bx), .int .i64 bn, .int .i64 ba, .int .i64 be])
    clear hb8 hp8 hB9
    go_upto_region 6 with (fail)
    generalize w8.alloc (.cells #[.int .i64 bk, .string (str bx), .int .i64 bn, .int .i64 ba, .int .i64 be] 74) = w9 at *
    have t0 := HT9.out.cell 0; have t2 := HT9.out.cell 2; have lt9 := HT9.out.lt
    have hxx := HX9.out
    have x0 := hxx.cell 0; have x1 := hxx.cell 1; have x2 := hxx.cell 2; have x3 := hxx.cell 3; have x4 := hxx.cell 4; have x5 := hxx.cell 5; have x6 := hxx.cell 6; have x7 := hxx.cell 7; have x8 := hxx.cell 8; have x9 := hxx.cell 9; have x10 := hxx.cell 10; have x11 := hxx.cell 11; have lx := hxx.lt
    have fx0 := hxx.frozen 0; have fx1 := hxx.frozen 1; have fx2 := hxx.frozen 2; have fx3 := hxx.frozen 3; have fx4 := hxx.frozen 4; have fx5 := hxx.frozen 5; have fx6 := hxx.frozen 6; have fx7 := hxx.frozen 7; have fx8 := hxx.frozen 8; have fx9 := hxx.frozen 9; have fx10 := hxx.frozen 10; have fx11 := hxx.frozen 11
    unfold NV.cells at x0 x1 x2 x3 x4 x5 x6 x7 x8 x9 x10 x11
    simp only [List.getElem?_toArray, List.getElem?_cons_zero, List.getElem?_cons_succ] at t0 t2 x0 x1 x2 x3 x4 x5 x6 x7 x8 x9 x10 x11
    clear hxx hn5
    have HST := LH (UnRel.step HB.out HNW.out HLT.out HP9.out HX9.out HN9.out HB9.out HZ9.out)
    rw [HK.out] at HST
    go_wp2
    go_roundg (S.length - (j + 1))
    case measure => rw [HGH.out]; exact HNEW.out
    case rel => exact HST.out
  ·have hje : j = S.length := by omega
   obtain ⟨p, pr, hpp, hpk⟩ := HPO.out
   have hpt : ts[k + A0.length + j]? = some p := tk_at HSD.out j (by rw [List.getElem?_append_right (by omega), hje, Nat.sub_self, hpp]; rfl)
   have HPT := LH hpt
   have e18 : ((p.kind : Int) == 18) = false := by simpa using fun h : p.kind = 18 => hpk (by rw [h]; decide)
   have e19 : ((p.kind : Int) == 19) = false := by simpa using fun h : p.kind = 19 => hpk (by rw [h]; decide)
   have HTF := LH (show sfxT t5 (S.take j) = sfxT t5 S from by rw [hje, List.take_length])
   have HJE := LH hje
   clear hpt hpk hje hpp
   go_wp2_with fail
   refine (pkind_at HPS.out HPT.out hl).mono ?_
   rintro e w6 ⟨rfl, hb6, hs6⟩
   have HP6 := LH (HPS.out.belowW hb6); have HB6 := LH (HPB.out.trans (PB.of hb6 (Nat.le_of_lt HPS.out.lt))); have HX6 := LH (HBX.out.belowW hb6); have HZ6 := LH (HZ.out.belowW hb6)
   have HN6 := LH ((HNX.out.belowW hb6).mono (G := UnF w w5.heap.size w6) (fun c hc => ⟨hc.1, Nat.lt_of_lt_of_le hc.2.1 hb6.size, hc.2.2⟩))
   clear hb6 hs6
   go_wp2_with fail
   refine (pkind_at HP6.out HPT.out hl).mono ?_
   rintro e w7 ⟨rfl, hb7, hs7⟩
   have HP7 := LH (HP6.out.belowW hb7); have HB7 := LH (HB6.out.trans (PB.of hb7 (Nat.le_of_lt HP6.out.lt))); have HX7 := LH (HX6.out.belowW hb7); have HZ7 := LH (HZ6.out.belowW hb7)
   have HN7 := LH ((HN6.out.belowW hb7).mono (G := UnF w w5.heap.size w7) (fun c hc => ⟨hc.1, Nat.lt_of_lt_of_le hc.2.1 hb7.size, hc.2.2⟩))
   clear hb7 hs7
   have hxx := HX7.out
   have x0 := hxx.cell 0; have x1 := hxx.cell 1; have x2 := hxx.cell 2; have x3 := hxx.cell 3; have x4 := hxx.cell 4; have x5 := hxx.cell 5; have x6 := hxx.cell 6; have x7 := hxx.cell 7; have x8 := hxx.cell 8; have x9 := hxx.cell 9; have x10 := hxx.cell 10; have x11 := hxx.cell 11; have lx := hxx.lt
   unfold NV.cells at x0 x1 x2 x3 x4 x5 x6 x7 x8 x9 x10 x11
   simp only [List.getElem?_toArray, List.getElem?_cons_zero, List.getElem?_cons_succ] at x0 x1 x2 x3 x4 x5 x6 x7 x8 x9 x10 x11
   clear hxx
   have hzz := HZ7.out
   obtain ⟨z0, z1, z2, z3, z4, z5, z6, z7, z8, z9, z10, z11, fz0, fz1, fz2, fz3, fz4, fz5, fz6, fz7, fz8, fz9, fz10, fz11, lz⟩ := blk12 hzz
   clear hzz
   go_wp2
   refine bodyPost_ret (v := NV.val ⟨kd, fl, tx, xn, ⟨l1, l2, l3⟩, ⟨r1, r2, r3⟩, ⟨oa, on, oc⟩, ⟨ka, kn, kc⟩⟩) ?_ rfl ?_
   ·simp [results, Tryd.results66, go_sem, NV.val, bd0, str, lz, fz0, fz1, fz2, fz3, fz4, fz5, fz6, fz7, fz8, fz9, fz10, fz11, z0, z1, z2, z3, z4, z5, z6, z7, z8, z9, z10, z11]
   ·exact PtRet.tree HLT.out HB7.out HP7.out (by rw [HJE.out]) (by rw [HV.out, ← HTF.out]) HN7.out (fun b h => ⟨h.1, h.2.1⟩)
theorem punary_of {pb : Nat} {PA : Option Addr} {cap : Nat} {ts : List Lt} {M : Nat} (hok : TkOk ts) (hA : AtOk pb PA cap ts M) : ∀ N, N ≤ M → UnOk pb PA cap ts N := by
 intro N
 induction N with
 | zero => intro _ A n v hD hlen; omega
 | succ N ih =>
  intro hN A n v hD hlen w k f post hd hp h
  cases hD with
  | pieceU hP => exact punary_piece w pb PA cap ts k f h hok M hA _ _ _ post hP (by omega) hd hp
  | not ht hU =>
   rw [List.length_cons] at hlen
   exact punary_not w pb PA cap ts k f h hok N (ih (by omega)) _ _ _ _ post hU (by omega) ht hd hp
end Go.Proofs.YthcldpminmhgkaaDoor
end
section
namespace Go.Proofs.YthcldpminmhgkaaDoor
structure Cp where
 b : Lt
 A : List Lt
 v : Vl
def chToks (B0 : List Lt) (r : List Cp) : List Lt := B0 ++ r.flatMap fun x => x.b :: x.A
def chVal (wr : List (Int × Nd) → List (Int × Nd)) (v0 : Vl) (r : List Cp) : Vl := fun f => wr (v0 f) ++ r.flatMap fun x => wr (x.v f)
structure Chain (q : Pt) (k : Int) (wr : List (Int × Nd) → List (Int × Nd)) (A : List Lt) (v : Vl) (B0 : List Lt) (v0 : Vl) (r : List Cp) : Prop where
 toks : A = chToks B0 r
 val : v = chVal wr v0 r
 head : ∃ n, D q B0 n v0
 rest : ∀ x ∈ r, x.b.kind = k ∧ ∃ n, D q x.A n x.v
theorem Chain.one {q : Pt} {k : Int} {wr : List (Int × Nd) → List (Int × Nd)} {A : List Lt} {n : Nat} {v : Vl} (h : D q A n v) : Chain q k wr A (fun f => wr (v f)) A v [] :=
 ⟨by simp [chToks], by funext f; simp [chVal], ⟨n, h⟩, fun x hx => by cases hx⟩
theorem Chain.snoc {q : Pt} {k : Int} {wr : List (Int × Nd) → List (Int × Nd)} {A B B0 : List Lt} {n : Nat} {v v0 u : Vl} {r : List Cp} {b : Lt} (h : Chain q k wr A v B0 v0 r) (hb : b.kind = k) (hB : D q B n u) : Chain q k wr (A ++ b :: B) (fun f => v f ++ wr (u f)) B0 v0 (r ++ [⟨b, B, u⟩]) := by
 obtain ⟨h1, h2, h3, h4⟩ := h
 refine ⟨by rw [h1]; simp [chToks], by rw [h2]; funext f; simp [chVal], h3, fun x hx => ?_⟩
 rcases List.mem_append.1 hx with hx | hx
 ·exact h4 x hx
 ·rw [List.mem_singleton.1 hx]; exact ⟨hb, n, hB⟩
theorem D.chains {p : Pt} {A : List Lt} {n : Nat} {v : Vl} (h : D p A n v) :
  (p = .maxes → ∃ B0 v0 r, Chain .unary 17 id A v B0 v0 r) ∧ (p = .ands → ∃ B0 v0 r, Chain .maxes 4 (wrapN 12) A v B0 v0 r) ∧ (p = .ors → ∃ B0 v0 r, Chain .ands 5 (wrapN 10) A v B0 v0 r) := by
 induction h with
 | maxU h => exact ⟨fun _ => ⟨_, _, _, .one h⟩, fun e => (by cases e), fun e => (by cases e)⟩
 | bar h hb hB ih _ =>
  refine ⟨fun _ => ?_, fun e => (by cases e), fun e => (by cases e)⟩
  obtain ⟨B0, v0, r, hc⟩ := ih.1 rfl
  exact ⟨B0, v0, _, hc.snoc hb hB⟩
 | andM h => exact ⟨fun e => (by cases e), fun _ => ⟨_, _, _, .one h⟩, fun e => (by cases e)⟩
 | and h hb hB ih _ =>
  refine ⟨fun e => (by cases e), fun _ => ?_, fun e => (by cases e)⟩
  obtain ⟨B0, v0, r, hc⟩ := ih.2.1 rfl
  exact ⟨B0, v0, _, hc.snoc hb hB⟩
 | orA h => exact ⟨fun e => (by cases e), fun e => (by cases e), fun _ => ⟨_, _, _, .one h⟩⟩
 | or h hb hB ih _ =>
  refine ⟨fun e => (by cases e), fun e => (by cases e), fun _ => ?_⟩
  obtain ⟨B0, v0, r, hc⟩ := ih.2.2 rfl
  exact ⟨B0, v0, _, hc.snoc hb hB⟩
 | _ => exact ⟨fun e => (by cases e), fun e => (by cases e), fun e => (by cases e)⟩
theorem D.maxC {A : List Lt} {n : Nat} {v : Vl} (h : D .maxes A n v) : ∃ B0 v0 r, Chain .unary 17 id A v B0 v0 r := h.chains.1 rfl
theorem D.andC {A : List Lt} {n : Nat} {v : Vl} (h : D .ands A n v) : ∃ B0 v0 r, Chain .maxes 4 (wrapN 12) A v B0 v0 r := h.chains.2.1 rfl
theorem D.orC {A : List Lt} {n : Nat} {v : Vl} (h : D .ors A n v) : ∃ B0 v0 r, Chain .ands 5 (wrapN 10) A v B0 v0 r := h.chains.2.2 rfl
structure Cl where
 A : List Lt
 v : Vl
theorem D.listC {A : List Lt} {n : Nat} {v : Vl} (h : D .list A n v) : ∃ l : List Cl, l ≠ [] ∧ A = l.flatMap (·.A) ∧ (v = fun f => l.flatMap fun x => x.v f) ∧ ∀ x ∈ l, ∃ n, D .clause x.A n x.v := by
 generalize hp : Pt.list = p at h
 induction h with
 | @one A n v h =>
  refine ⟨[⟨A, v⟩], by simp, by simp, by simp, fun x hx => ?_⟩
  rw [List.mem_singleton.1 hx]; exact ⟨n, h⟩
 | @more A B n m v u hA hB ih _ =>
  obtain ⟨l, h0, h1, h2, h3⟩ := ih rfl
  refine ⟨l ++ [⟨B, u⟩], by simp, by rw [h1]; simp, by rw [h2]; simp, fun x hx => ?_⟩
  rcases List.mem_append.1 hx with hx | hx
  ·exact h3 x hx
  ·rw [List.mem_singleton.1 hx]; exact ⟨m, hB⟩
 | _ => cases hp
end Go.Proofs.YthcldpminmhgkaaDoor
end
