/- Merged for a claim by shake.py: Ue -/
import Derived.Test.YthcldpminmhgkaaDoorKxA
import Derived.Deep.RegionLaw
import Derived.Test.YthcldpminmhgkaaDoorKx13
set_option maxRecDepth 100000
set_option maxHeartbeats 4000000
set_option linter.unusedSimpArgs false
set_option linter.unusedVariables false
section
namespace Go.Proofs.YthcldpminmhgkaaDoor
open Go.RowKit
@[reducible] def set12 (w : World) (z : Nat) (x : NV) : World := (((((((((((w.setCell ⟨z, 0, none⟩ (.int .i64 x.kind)).setCell ⟨z, 1, none⟩ (.string (str x.field))).setCell ⟨z, 2, none⟩ (.string (str x.text))).setCell ⟨z, 3, none⟩ (.int .i64 x.n)).setCell ⟨z, 4, none⟩ (.bool x.lo.open_)).setCell ⟨z, 5, none⟩ (.bool x.lo.in_)).setCell ⟨z, 6, none⟩ (.string (str x.lo.text))).setCell ⟨z, 7, none⟩ (.bool x.hi.open_)).setCell ⟨z, 8, none⟩ (.bool x.hi.in_)).setCell ⟨z, 9, none⟩ (.string (str x.hi.text))).setCell ⟨z, 10, none⟩ (.slice x.occ.a x.occ.n x.occ.c)).setCell ⟨z, 11, none⟩ (.slice x.kids.a x.kids.n x.kids.c)
theorem set12_block {w : World} {z b : Nat} {x : NV} (h : b ≠ z) : (set12 w z x).heap[b]? = w.heap[b]? := by
 unfold set12
 repeat rw [Below.heap_setCell _ _ _ _ h]
theorem set12_size {w : World} {z : Nat} {x : NV} : (set12 w z x).heap.size = w.heap.size := by
 unfold set12
 simp only [set_size]
theorem PB.set12 {pb z : Nat} {w W : World} {x : NV} (h : PB pb w W) (hp : pb ≤ w.heap.size) (hz : w.heap.size ≤ z) : PB pb w (set12 W z x) := by
 unfold Go.Proofs.YthcldpminmhgkaaDoor.set12
 repeat (first | with_reducible exact h | with_reducible refine PB.new ?_ hp hz)
theorem PsAt.set12 {w : World} {pb cap k z : Nat} {A : Option Addr} {ts : List Lt} {x : NV} (h : PsAt w pb A cap ts k) (hz : pb < z) : PsAt (set12 w z x) pb A cap ts k := by
 unfold Go.Proofs.YthcldpminmhgkaaDoor.set12
 repeat (first | with_reducible exact h | with_reducible refine PsAt.far ?_ hz)
theorem NdR.set12 {w : World} {F : Nat → Prop} {z : Nat} {x y : NV} {t : Nd} (h : NdR w F x t) (hF : ∀ b, F b → b ≠ z) : NdR (set12 w z y) F x t :=
 h.keep fun p hp _ => World.cell?_of_block (set12_block (hF _ hp))
theorem pnext_at {w : World} {pb : Nat} {A : Option Addr} {cap : Nat} {ts : List Lt} {k : Nat} {t : Lt} (h : PsAt w pb A cap ts k) (ht : ts[k]? = some t) (hl : ts.length ≤ 920000000000) :
  Calls Tryd.prog 92 #[.pointer (some ⟨pb, 0, none⟩)] w (NxtRet pb A cap ts k t w) := by
 obtain ⟨hk, rfl⟩ := List.getElem?_eq_some_iff.1 ht
 exact pnext_any w pb A cap ts k h hk hl
theorem pkind_at {w : World} {pb : Nat} {A : Option Addr} {cap : Nat} {ts : List Lt} {k : Nat} {t : Lt} (h : PsAt w pb A cap ts k) (ht : ts[k]? = some t) (hl : ts.length ≤ 920000000000) :
  Calls Tryd.prog 64 #[.pointer (some ⟨pb, 0, none⟩)] w fun e w' => e = .returned (.int .i64 t.kind) ∧ Below w.heap.size w w' ∧ w'.heap.size = w.heap.size := by
 obtain ⟨hk, rfl⟩ := List.getElem?_eq_some_iff.1 ht
 exact pkind_any w pb A cap ts k h hk hl
theorem ptakes_at {w : World} {pb : Nat} {A : Option Addr} {cap : Nat} {ts : List Lt} {k : Nat} {t : Lt} (K : Int) (h : PsAt w pb A cap ts k) (ht : ts[k]? = some t) (hl : ts.length ≤ 920000000000) :
  Calls Tryd.prog 65 #[.pointer (some ⟨pb, 0, none⟩), .int .i64 K] w (TakRet pb A cap ts k (decide (t.kind = K)) w) := by
 obtain ⟨hk, rfl⟩ := List.getElem?_eq_some_iff.1 ht
 exact ptakes_any w pb A cap ts k K h hk hl
theorem tk_at {ts A post : List Lt} {k : Nat} (h : ts.drop k = A ++ post) (j : Nat) {t : Lt} (hj : (A ++ post)[j]? = some t) : ts[k + j]? = some t := by
 rw [← List.getElem?_drop, h]; exact hj
theorem field_lex2 (a : Int) (b : ByteArray) (c d e : Int) (W : World) : (Instr.field 74 (.agg #[.int .i64 a, .string b, .int .i64 c, .int .i64 d, .int .i64 e]) 2).run Tryd.prog W = .ok (.int .i64 c) W := by kernel_rfl
theorem field_lex0 (a : Int) (b : ByteArray) (c d e : Int) (W : World) : (Instr.field 74 (.agg #[.int .i64 a, .string b, .int .i64 c, .int .i64 d, .int .i64 e]) 0).run Tryd.prog W = .ok (.int .i64 a) W := by kernel_rfl
def edN (n : Int) : Int := if n < 0 then 2 else n
def TkOk (ts : List Lt) : Prop := ts.length ≤ 900000000001 ∧ ∀ t ∈ ts, (t.kind = 2 → patOk t.text) ∧ t.text.length ≤ 900000000000
def PtRet (pb : Nat) (A : Option Addr) (cap : Nat) (ts : List Lt) (k : Nat) (v : List (Int × Nd)) (w : World) (e : Ending) (w' : World) : Prop :=
 PB pb w w' ∧ PsAt w' pb A cap ts k ∧ ∃ (x : NV) (t : Nd), e = .returned x.val ∧ v = [(0, t)] ∧ NdR w' (rng w.heap.size w'.heap.size) x t
theorem PtRet.leaf {pb : Nat} {A : Option Addr} {cap k k2 : Nat} {ts : List Lt} {v : List (Int × Nd)} {w W : World} {kd n : Int} {f tx : List UInt8} (hp : pb < w.heap.size) (hb : PB pb w W) (hs : PsAt W pb A cap ts k2) (hk : k2 = k) (hv : v = [(0, ndLeaf kd f tx n)]) : PtRet pb A cap ts k v w (.returned (nvLeaf kd f tx n).val) (set12 W w.heap.size (nvLeaf kd f tx n)) := by
 subst hk
 exact ⟨hb.set12 (Nat.le_of_lt hp) (Nat.le_refl _), hs.set12 hp, _, _, rfl, hv, nd_leaf _ _ _ _ _ _⟩
theorem pleaf_word (w : World) (pb : Nat) (PA : Option Addr) (cap : Nat) (ts : List Lt) (k : Nat) (f : List UInt8) (t : Lt) (post : List Lt) (h : PsAt w pb PA cap ts k) (hok : TkOk ts) (hd : ts.drop k = [t] ++ post) (hk1 : t.kind = 1) (hp0 : ∃ p r, post = p :: r ∧ p.kind ≠ 20) :
  Calls Tryd.prog 100 #[.pointer (some ⟨pb, 0, none⟩), .string (str f)] w (PtRet pb PA cap ts (k + 1) [(0, ndLeaf 1 f t.text 0)] w) := by
 have h0 : ts[k]? = some t := tk_at (j := 0) hd rfl
 obtain ⟨p, r, hpr, hp20⟩ := hp0
 have h1 : ts[k + 1]? = some p := tk_at (j := 1) hd (by rw [hpr]; rfl)
 obtain ⟨tk, tx, tn, ta, te⟩ := t
 simp only [] at hk1
 clear hd
 have e20 : ((p.kind : Int) == 20) = false := by simpa using hp20
 have e20n : ((p.kind : Int) != 20) = true := by simpa using hp20
 have e1 : ((tk : Int) == 1) = true := by rw [hk1]; rfl
 obtain ⟨pk, px, pn, pa, pe⟩ := p
 simp only [] at e20 e20n
 clear hk1 hp20 hpr
 have HLT := LH h.lt
 have hl : ts.length ≤ 920000000000 := by have := hok.1; omega
 have HA1 := LH (h.alloc zO)
 have HZ1 := LH (Blk.new w 27 zA)
 have HB1 := LH (PB.of (pb := pb) ((Below.refl w.heap.size w).alloc (Nat.le_refl _) zO) (Nat.le_of_lt h.lt))
 clear h
 go_enter Tryd.func100, Tryd.ntmps100
 go_wp2_with fail
 generalize w.alloc zO = w1 at *
 refine (pnext_at HA1.out h0 hl).mono ?_
 rintro e w2 ⟨rfl, hb2, hp2⟩
 have HB2 := LH (HB1.out.trans hb2)
 have HZ2 := LH (show Blk w2 w.heap.size 27 zA from by
  have h := HZ1.out
  unfold Blk at h ⊢
  rw [hb2.keep w.heap.size HZ1.out.lt (by have := HLT.out; omega)]; exact h)
 have HP2 := LH hp2
 unfold ltVal
 simp only []
 clear hb2 hp2
 have HB3 := LH (HB2.out.alloc (Nat.le_of_lt HLT.out) (.cells #[.int .i64 tk, .string (str tx), .int .i64 tn, .int .i64 ta, .int .i64 te] 74))
 have HZ3 := LH (HZ2.out.alloc (.cells #[.int .i64 tk, .string (str tx), .int .i64 tn, .int .i64 ta, .int .i64 te] 74))
 have HP3 := LH (HP2.out.alloc (.cells #[.int .i64 tk, .string (str tx), .int .i64 tn, .int .i64 ta, .int .i64 te] 74))
 have HT3 := LH (Blk.new w2 74 #[.int .i64 tk, .string (str tx), .int .i64 tn, .int .i64 ta, .int .i64 te])
 have HNE := LH (show w2.heap.size ≠ pb from by have := HP2.out.lt; omega)
 go_upto_region 2 with (fail)
 generalize w2.alloc (.cells #[.int .i64 tk, .string (str tx), .int .i64 tn, .int .i64 ta, .int .i64 te] 74) = w3 at *
 have t0 := HT3.out.cell 0; have t1 := HT3.out.cell 1; have lt3 := HT3.out.lt
 simp only [List.getElem?_toArray, List.getElem?_cons_zero, List.getElem?_cons_succ] at t0 t1
 go_wp2_with fail
 refine (pkind_at HP3.out h1 hl).mono ?_
 rintro e w4 ⟨rfl, hbk, hsk⟩
 have HB4 := LH (HB3.out.trans (PB.of hbk (Nat.le_of_lt HP3.out.lt)))
 have HP4 := LH (HP3.out.belowW hbk)
 have HZ4 := LH (HZ3.out.belowW hbk)
 have HT4 := LH (HT3.out.belowW hbk)
 clear hbk hsk t0 t1 lt3
 have t0 := HT4.out.cell 0; have t1 := HT4.out.cell 1
 simp only [List.getElem?_toArray, List.getElem?_cons_zero, List.getElem?_cons_succ] at t0 t1
 have hzz := HZ4.out
 obtain ⟨z0, z1, z2, z3, z4, z5, z6, z7, z8, z9, z10, z11, fz0, fz1, fz2, fz3, fz4, fz5, fz6, fz7, fz8, fz9, fz10, fz11, lz⟩ := blk12 hzz
 clear hzz
 go_wp2
 refine bodyPost_ret (v := (nvLeaf 1 f tx 0).val) ?_ rfl ?_
 ·simp [results, Tryd.results100, go_sem, NV.val, nvLeaf, bd0, str, lz, fz0, fz1, fz2, fz3, fz4, fz5, fz6, fz7, fz8, fz9, fz10, fz11, z0, z1, z2, z3, z4, z5, z6, z7, z8, z9, z10, z11]
 ·exact PtRet.leaf HLT.out HB4.out HP4.out rfl rfl
theorem pleaf_edits (w : World) (pb : Nat) (PA : Option Addr) (cap : Nat) (ts : List Lt) (k : Nat) (f : List UInt8) (t u : Lt) (post : List Lt) (h : PsAt w pb PA cap ts k) (hok : TkOk ts) (hd : ts.drop k = [t, u] ++ post) (hk1 : t.kind = 1) (hk2 : u.kind = 20) :
  Calls Tryd.prog 100 #[.pointer (some ⟨pb, 0, none⟩), .string (str f)] w (PtRet pb PA cap ts (k + 2) [(0, ndLeaf 5 f t.text (edN u.n))] w) := by
 have h0 : ts[k]? = some t := tk_at (j := 0) hd rfl
 have h1 : ts[k + 1]? = some u := tk_at (j := 1) hd rfl
 obtain ⟨tk, tx, tn, ta, te⟩ := t
 obtain ⟨uk, ux, un, ua, ue⟩ := u
 simp only [] at hk1 hk2
 clear hd
 have hfd := fun (W : World) => field_lex2 uk (str ux) un ua ue W
 have e20 : ((uk : Int) == 20) = true := by rw [hk2]; rfl
 have e20n : ((uk : Int) != 20) = false := by rw [hk2]; rfl
 have e1 : ((tk : Int) == 1) = true := by rw [hk1]; rfl
 clear hk1 hk2
 have HLT := LH h.lt
 have hl : ts.length ≤ 920000000000 := by have := hok.1; omega
 have HA1 := LH (h.alloc zO)
 have HZ1 := LH (Blk.new w 27 zA)
 have HB1 := LH (PB.of (pb := pb) ((Below.refl w.heap.size w).alloc (Nat.le_refl _) zO) (Nat.le_of_lt h.lt))
 clear h
 go_enter Tryd.func100, Tryd.ntmps100
 go_wp2_with fail
 generalize w.alloc zO = w1 at *
 refine (pnext_at HA1.out h0 hl).mono ?_
 rintro e w2 ⟨rfl, hb2, hp2⟩
 have HB2 := LH (HB1.out.trans hb2)
 have HZ2 := LH (show Blk w2 w.heap.size 27 zA from by
  have h := HZ1.out
  unfold Blk at h ⊢
  rw [hb2.keep w.heap.size HZ1.out.lt (by have := HLT.out; omega)]; exact h)
 have HP2 := LH hp2
 unfold ltVal
 simp only []
 clear hb2 hp2
 have HB3 := LH (HB2.out.alloc (Nat.le_of_lt HLT.out) (.cells #[.int .i64 tk, .string (str tx), .int .i64 tn, .int .i64 ta, .int .i64 te] 74))
 have HZ3 := LH (HZ2.out.alloc (.cells #[.int .i64 tk, .string (str tx), .int .i64 tn, .int .i64 ta, .int .i64 te] 74))
 have HP3 := LH (HP2.out.alloc (.cells #[.int .i64 tk, .string (str tx), .int .i64 tn, .int .i64 ta, .int .i64 te] 74))
 have HT3 := LH (Blk.new w2 74 #[.int .i64 tk, .string (str tx), .int .i64 tn, .int .i64 ta, .int .i64 te])
 have HNE := LH (show w2.heap.size ≠ pb from by have := HP2.out.lt; omega)
 go_upto_region 2 with (fail)
 generalize w2.alloc (.cells #[.int .i64 tk, .string (str tx), .int .i64 tn, .int .i64 ta, .int .i64 te] 74) = w3 at *
 have t0 := HT3.out.cell 0; have t1 := HT3.out.cell 1; have lt3 := HT3.out.lt
 simp only [List.getElem?_toArray, List.getElem?_cons_zero, List.getElem?_cons_succ] at t0 t1
 go_wp2_with fail
 refine (pkind_at HP3.out h1 hl).mono ?_
 rintro e w4 ⟨rfl, hbk, hsk⟩
 have HB4 := LH (HB3.out.trans (PB.of hbk (Nat.le_of_lt HP3.out.lt)))
 have HP4 := LH (HP3.out.belowW hbk)
 have HZ4 := LH (HZ3.out.belowW hbk)
 have HT4 := LH (HT3.out.belowW hbk)
 clear hbk hsk t0 t1 lt3
 go_wp2_with fail
 refine (pnext_at HP4.out h1 hl).mono ?_
 rintro e w5 ⟨rfl, hb5, hp5⟩
 have HB5 := LH (HB4.out.trans hb5)
 have HP5 := LH hp5
 have HZ5 := LH (show Blk w5 w.heap.size 27 zA from by
  have h := HZ4.out
  unfold Blk at h ⊢
  rw [hb5.keep w.heap.size HZ4.out.lt (by have := HLT.out; omega)]; exact h)
 have HT5 := LH (show Blk w5 w2.heap.size 74 #[.int .i64 tk, .string (str tx), .int .i64 tn, .int .i64 ta, .int .i64 te] from by
  have h := HT4.out
  unfold Blk at h ⊢
  rw [hb5.keep w2.heap.size HT4.out.lt HNE.out]; exact h)
 have t0 := HT5.out.cell 0; have t1 := HT5.out.cell 1
 simp only [List.getElem?_toArray, List.getElem?_cons_zero, List.getElem?_cons_succ] at t0 t1
 unfold ltVal
 simp only []
 clear hb5 hp5
 have hzz := HZ5.out
 obtain ⟨z0, z1, z2, z3, z4, z5, z6, z7, z8, z9, z10, z11, fz0, fz1, fz2, fz3, fz4, fz5, fz6, fz7, fz8, fz9, fz10, fz11, lz⟩ := blk12 hzz
 clear hzz
 by_cases hn : un < 0
 ·have e5 : decide (un < 0) = true := by simpa using hn
  have HV := LH (show edN un = 2 from if_pos hn)
  go_wp2
  refine bodyPost_ret (v := (nvLeaf 5 f tx 2).val) ?_ rfl ?_
  ·simp [results, Tryd.results100, go_sem, NV.val, nvLeaf, bd0, str, lz, fz0, fz1, fz2, fz3, fz4, fz5, fz6, fz7, fz8, fz9, fz10, fz11, z0, z1, z2, z3, z4, z5, z6, z7, z8, z9, z10, z11]
  ·exact PtRet.leaf HLT.out HB5.out HP5.out rfl (by show [(0, ndLeaf 5 f tx (edN un))] = _; rw [HV.out])
 ·have e5 : decide (un < 0) = false := by simpa using hn
  have HV := LH (show edN un = un from if_neg hn)
  go_wp2
  refine bodyPost_ret (v := (nvLeaf 5 f tx un).val) ?_ rfl ?_
  ·simp [results, Tryd.results100, go_sem, NV.val, nvLeaf, bd0, str, lz, fz0, fz1, fz2, fz3, fz4, fz5, fz6, fz7, fz8, fz9, fz10, fz11, z0, z1, z2, z3, z4, z5, z6, z7, z8, z9, z10, z11]
  ·exact PtRet.leaf HLT.out HB5.out HP5.out rfl (by show [(0, ndLeaf 5 f tx (edN un))] = _; rw [HV.out])
theorem pleaf_quo (w : World) (pb : Nat) (PA : Option Addr) (cap : Nat) (ts : List Lt) (k : Nat) (f : List UInt8) (t : Lt) (post : List Lt) (h : PsAt w pb PA cap ts k) (hok : TkOk ts) (hd : ts.drop k = [t] ++ post) (hk1 : t.kind = 3) (hp0 : ∃ p r, post = p :: r ∧ p.kind ≠ 20) :
  Calls Tryd.prog 100 #[.pointer (some ⟨pb, 0, none⟩), .string (str f)] w (PtRet pb PA cap ts (k + 1) [(0, ndLeaf 2 f t.text 0)] w) := by
 have h0 : ts[k]? = some t := tk_at (j := 0) hd rfl
 obtain ⟨p, r, hpr, hp20⟩ := hp0
 have h1 : ts[k + 1]? = some p := tk_at (j := 1) hd (by rw [hpr]; rfl)
 obtain ⟨tk, tx, tn, ta, te⟩ := t
 simp only [] at hk1
 clear hd
 have e20 : ((p.kind : Int) == 20) = false := by simpa using hp20
 have e20n : ((p.kind : Int) != 20) = true := by simpa using hp20
 have e1 : ((tk : Int) == 1) = false := by rw [hk1]; rfl
 have e3 : ((tk : Int) == 3) = true := by rw [hk1]; rfl
 obtain ⟨pk, px, pn, pa, pe⟩ := p
 simp only [] at e20 e20n
 clear hk1 hp20 hpr
 have HLT := LH h.lt
 have hl : ts.length ≤ 920000000000 := by have := hok.1; omega
 have HA1 := LH (h.alloc zO)
 have HZ1 := LH (Blk.new w 27 zA)
 have HB1 := LH (PB.of (pb := pb) ((Below.refl w.heap.size w).alloc (Nat.le_refl _) zO) (Nat.le_of_lt h.lt))
 clear h
 go_enter Tryd.func100, Tryd.ntmps100
 go_wp2_with fail
 generalize w.alloc zO = w1 at *
 refine (pnext_at HA1.out h0 hl).mono ?_
 rintro e w2 ⟨rfl, hb2, hp2⟩
 have HB2 := LH (HB1.out.trans hb2)
 have HZ2 := LH (show Blk w2 w.heap.size 27 zA from by
  have h := HZ1.out
  unfold Blk at h ⊢
  rw [hb2.keep w.heap.size HZ1.out.lt (by have := HLT.out; omega)]; exact h)
 have HP2 := LH hp2
 unfold ltVal
 simp only []
 clear hb2 hp2
 have HB3 := LH (HB2.out.alloc (Nat.le_of_lt HLT.out) (.cells #[.int .i64 tk, .string (str tx), .int .i64 tn, .int .i64 ta, .int .i64 te] 74))
 have HZ3 := LH (HZ2.out.alloc (.cells #[.int .i64 tk, .string (str tx), .int .i64 tn, .int .i64 ta, .int .i64 te] 74))
 have HP3 := LH (HP2.out.alloc (.cells #[.int .i64 tk, .string (str tx), .int .i64 tn, .int .i64 ta, .int .i64 te] 74))
 have HT3 := LH (Blk.new w2 74 #[.int .i64 tk, .string (str tx), .int .i64 tn, .int .i64 ta, .int .i64 te])
 have HNE := LH (show w2.heap.size ≠ pb from by have := HP2.out.lt; omega)
 go_upto_region 2 with (fail)
 generalize w2.alloc (.cells #[.int .i64 tk, .string (str tx), .int .i64 tn, .int .i64 ta, .int .i64 te] 74) = w3 at *
 have t0 := HT3.out.cell 0; have t1 := HT3.out.cell 1; have lt3 := HT3.out.lt
 simp only [List.getElem?_toArray, List.getElem?_cons_zero, List.getElem?_cons_succ] at t0 t1
 go_wp2_with fail
 refine (pkind_at HP3.out h1 hl).mono ?_
 rintro e w4 ⟨rfl, hbk, hsk⟩
 have HB4 := LH (HB3.out.trans (PB.of hbk (Nat.le_of_lt HP3.out.lt)))
 have HP4 := LH (HP3.out.belowW hbk)
 have HZ4 := LH (HZ3.out.belowW hbk)
 have HT4 := LH (HT3.out.belowW hbk)
 clear hbk hsk t0 t1 lt3
 have t0 := HT4.out.cell 0; have t1 := HT4.out.cell 1
 simp only [List.getElem?_toArray, List.getElem?_cons_zero, List.getElem?_cons_succ] at t0 t1
 have hzz := HZ4.out
 obtain ⟨z0, z1, z2, z3, z4, z5, z6, z7, z8, z9, z10, z11, fz0, fz1, fz2, fz3, fz4, fz5, fz6, fz7, fz8, fz9, fz10, fz11, lz⟩ := blk12 hzz
 clear hzz
 go_wp2
 refine bodyPost_ret (v := (nvLeaf 2 f tx 0).val) ?_ rfl ?_
 ·simp [results, Tryd.results100, go_sem, NV.val, nvLeaf, bd0, str, lz, fz0, fz1, fz2, fz3, fz4, fz5, fz6, fz7, fz8, fz9, fz10, fz11, z0, z1, z2, z3, z4, z5, z6, z7, z8, z9, z10, z11]
 ·exact PtRet.leaf HLT.out HB4.out HP4.out rfl rfl
theorem pleaf_slop (w : World) (pb : Nat) (PA : Option Addr) (cap : Nat) (ts : List Lt) (k : Nat) (f : List UInt8) (t u : Lt) (post : List Lt) (h : PsAt w pb PA cap ts k) (hok : TkOk ts) (hd : ts.drop k = [t, u] ++ post) (hk1 : t.kind = 3) (hk2 : u.kind = 20) :
  Calls Tryd.prog 100 #[.pointer (some ⟨pb, 0, none⟩), .string (str f)] w (PtRet pb PA cap ts (k + 2) [(0, ndLeaf 2 f t.text u.n)] w) := by
 have h0 : ts[k]? = some t := tk_at (j := 0) hd rfl
 have h1 : ts[k + 1]? = some u := tk_at (j := 1) hd rfl
 obtain ⟨tk, tx, tn, ta, te⟩ := t
 obtain ⟨uk, ux, un, ua, ue⟩ := u
 simp only [] at hk1 hk2
 clear hd
 have hfd := fun (W : World) => field_lex2 uk (str ux) un ua ue W
 have e20 : ((uk : Int) == 20) = true := by rw [hk2]; rfl
 have e20n : ((uk : Int) != 20) = false := by rw [hk2]; rfl
 have e1 : ((tk : Int) == 1) = false := by rw [hk1]; rfl
 have e3 : ((tk : Int) == 3) = true := by rw [hk1]; rfl
 clear hk1 hk2
 have HLT := LH h.lt
 have hl : ts.length ≤ 920000000000 := by have := hok.1; omega
 have HA1 := LH (h.alloc zO)
 have HZ1 := LH (Blk.new w 27 zA)
 have HB1 := LH (PB.of (pb := pb) ((Below.refl w.heap.size w).alloc (Nat.le_refl _) zO) (Nat.le_of_lt h.lt))
 clear h
 go_enter Tryd.func100, Tryd.ntmps100
 go_wp2_with fail
 generalize w.alloc zO = w1 at *
 refine (pnext_at HA1.out h0 hl).mono ?_
 rintro e w2 ⟨rfl, hb2, hp2⟩
 have HB2 := LH (HB1.out.trans hb2)
 have HZ2 := LH (show Blk w2 w.heap.size 27 zA from by
  have h := HZ1.out
  unfold Blk at h ⊢
  rw [hb2.keep w.heap.size HZ1.out.lt (by have := HLT.out; omega)]; exact h)
 have HP2 := LH hp2
 unfold ltVal
 simp only []
 clear hb2 hp2
 have HB3 := LH (HB2.out.alloc (Nat.le_of_lt HLT.out) (.cells #[.int .i64 tk, .string (str tx), .int .i64 tn, .int .i64 ta, .int .i64 te] 74))
 have HZ3 := LH (HZ2.out.alloc (.cells #[.int .i64 tk, .string (str tx), .int .i64 tn, .int .i64 ta, .int .i64 te] 74))
 have HP3 := LH (HP2.out.alloc (.cells #[.int .i64 tk, .string (str tx), .int .i64 tn, .int .i64 ta, .int .i64 te] 74))
 have HT3 := LH (Blk.new w2 74 #[.int .i64 tk, .string (str tx), .int .i64 tn, .int .i64 ta, .int .i64 te])
 have HNE := LH (show w2.heap.size ≠ pb from by have := HP2.out.lt; omega)
 go_upto_region 2 with (fail)
 generalize w2.alloc (.cells #[.int .i64 tk, .string (str tx), .int .i64 tn, .int .i64 ta, .int .i64 te] 74) = w3 at *
 have t0 := HT3.out.cell 0; have t1 := HT3.out.cell 1; have lt3 := HT3.out.lt
 simp only [List.getElem?_toArray, List.getElem?_cons_zero, List.getElem?_cons_succ] at t0 t1
 go_wp2_with fail
 refine (pkind_at HP3.out h1 hl).mono ?_
 rintro e w4 ⟨rfl, hbk, hsk⟩
 have HB4 := LH (HB3.out.trans (PB.of hbk (Nat.le_of_lt HP3.out.lt)))
 have HP4 := LH (HP3.out.belowW hbk)
 have HZ4 := LH (HZ3.out.belowW hbk)
 have HT4 := LH (HT3.out.belowW hbk)
 clear hbk hsk t0 t1 lt3
 go_wp2_with fail
 refine (pnext_at HP4.out h1 hl).mono ?_
 rintro e w5 ⟨rfl, hb5, hp5⟩
 have HB5 := LH (HB4.out.trans hb5)
 have HP5 := LH hp5
 have HZ5 := LH (show Blk w5 w.heap.size 27 zA from by
  have h := HZ4.out
  unfold Blk at h ⊢
  rw [hb5.keep w.heap.size HZ4.out.lt (by have := HLT.out; omega)]; exact h)
 have HT5 := LH (show Blk w5 w2.heap.size 74 #[.int .i64 tk, .string (str tx), .int .i64 tn, .int .i64 ta, .int .i64 te] from by
  have h := HT4.out
  unfold Blk at h ⊢
  rw [hb5.keep w2.heap.size HT4.out.lt HNE.out]; exact h)
 have t0 := HT5.out.cell 0; have t1 := HT5.out.cell 1
 simp only [List.getElem?_toArray, List.getElem?_cons_zero, List.getElem?_cons_succ] at t0 t1
 unfold ltVal
 simp only []
 clear hb5 hp5
 have hzz := HZ5.out
 obtain ⟨z0, z1, z2, z3, z4, z5, z6, z7, z8, z9, z10, z11, fz0, fz1, fz2, fz3, fz4, fz5, fz6, fz7, fz8, fz9, fz10, fz11, lz⟩ := blk12 hzz
 clear hzz
 go_wp2
 refine bodyPost_ret (v := (nvLeaf 2 f tx un).val) ?_ rfl ?_
 ·simp [results, Tryd.results100, go_sem, NV.val, nvLeaf, bd0, str, lz, fz0, fz1, fz2, fz3, fz4, fz5, fz6, fz7, fz8, fz9, fz10, fz11, z0, z1, z2, z3, z4, z5, z6, z7, z8, z9, z10, z11]
 ·exact PtRet.leaf HLT.out HB5.out HP5.out rfl rfl
theorem pleaf_pat (w : World) (pb : Nat) (PA : Option Addr) (cap : Nat) (ts : List Lt) (k : Nat) (f : List UInt8) (t : Lt) (post : List Lt) (h : PsAt w pb PA cap ts k) (hok : TkOk ts) (hd : ts.drop k = [t] ++ post) (hk1 : t.kind = 2) :
  Calls Tryd.prog 100 #[.pointer (some ⟨pb, 0, none⟩), .string (str f)] w (PtRet pb PA cap ts (k + 1) [(0, patN f t.text)] w) := by
 have h0 : ts[k]? = some t := tk_at (j := 0) hd rfl
 have hmem : t ∈ ts := List.mem_of_getElem? h0
 have HPA := LH (hok.2 t hmem)
 obtain ⟨tk, tx, tn, ta, te⟩ := t
 simp only [] at hk1
 have HPO := LH (HPA.out.1 hk1)
 have e1 : ((tk : Int) == 1) = false := by rw [hk1]; rfl
 have e3 : ((tk : Int) == 3) = false := by rw [hk1]; rfl
 have e2 : ((tk : Int) == 2) = true := by rw [hk1]; rfl
 clear hd hk1 hmem
 have HLT := LH h.lt
 have hl : ts.length ≤ 920000000000 := by have := hok.1; omega
 have HA1 := LH (h.alloc zO)
 have HZ1 := LH (Blk.new w 27 zA)
 have HB1 := LH (PB.of (pb := pb) ((Below.refl w.heap.size w).alloc (Nat.le_refl _) zO) (Nat.le_of_lt h.lt))
 clear h
 go_enter Tryd.func100, Tryd.ntmps100
 go_wp2_with fail
 generalize w.alloc zO = w1 at *
 refine (pnext_at HA1.out h0 hl).mono ?_
 rintro e w2 ⟨rfl, hb2, hp2⟩
 have HB2 := LH (HB1.out.trans hb2)
 have HZ2 := LH (show Blk w2 w.heap.size 27 zA from by
  have h := HZ1.out
  unfold Blk at h ⊢
  rw [hb2.keep w.heap.size HZ1.out.lt (by have := HLT.out; omega)]; exact h)
 have HP2 := LH hp2
 unfold ltVal
 simp only []
 clear hb2 hp2
 have HB3 := LH (HB2.out.alloc (Nat.le_of_lt HLT.out) (.cells #[.int .i64 tk, .string (str tx), .int .i64 tn, .int .i64 ta, .int .i64 te] 74))
 have HZ3 := LH (HZ2.out.alloc (.cells #[.int .i64 tk, .string (str tx), .int .i64 tn, .int .i64 ta, .int .i64 te] 74))
 have HP3 := LH (HP2.out.alloc (.cells #[.int .i64 tk, .string (str tx), .int .i64 tn, .int .i64 ta, .int .i64 te] 74))
 have HT3 := LH (Blk.new w2 74 #[.int .i64 tk, .string (str tx), .int .i64 tn, .int .i64 ta, .int .i64 te])
 have HNE := LH (show w2.heap.size ≠ pb from by have := HP2.out.lt; omega)
 go_upto_region 2 with (fail)
 generalize w2.alloc (.cells #[.int .i64 tk, .string (str tx), .int .i64 tn, .int .i64 ta, .int .i64 te] 74) = w3 at *
 have t0 := HT3.out.cell 0; have t1 := HT3.out.cell 1; have lt3 := HT3.out.lt
 simp only [List.getElem?_toArray, List.getElem?_cons_zero, List.getElem?_cons_succ] at t0 t1
 go_wp2_with fail
 refine (ppattern_any f (str tx) w3 (by rw [str_size]; exact HPA.out.2) HPO.out).mono ?_
 rintro e w4 ⟨hb4, kd, f2, x2, hpat, rfl⟩
 have HPT := LH (show patN f tx = ndLeaf kd f2 x2 0 from hpat)
 have HB4 := LH (HB3.out.trans (PB.of hb4 (Nat.le_of_lt HP3.out.lt)))
 have HP4 := LH (HP3.out.belowW hb4)
 have HZ4 := LH (HZ3.out.belowW hb4)
 unfold nvLeaf NV.val
 simp only []
 clear hb4 hpat t0 t1 lt3
 have hzz := HZ4.out
 obtain ⟨z0, z1, z2, z3, z4, z5, z6, z7, z8, z9, z10, z11, fz0, fz1, fz2, fz3, fz4, fz5, fz6, fz7, fz8, fz9, fz10, fz11, lz⟩ := blk12 hzz
 clear hzz
 go_wp2
 refine bodyPost_ret (v := (nvLeaf kd f2 x2 0).val) ?_ rfl ?_
 ·simp [results, Tryd.results100, go_sem, NV.val, nvLeaf, bd0, str, lz, fz0, fz1, fz2, fz3, fz4, fz5, fz6, fz7, fz8, fz9, fz10, fz11, z0, z1, z2, z3, z4, z5, z6, z7, z8, z9, z10, z11]
 ·exact PtRet.leaf HLT.out HB4.out HP4.out rfl (by show [(0, patN f tx)] = _; rw [HPT.out])
end Go.Proofs.YthcldpminmhgkaaDoor
end
