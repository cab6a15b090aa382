/- Merged for a claim by shake.py: Uq Un Ya Yb Zb Jt -/
import Derived.Test.YthcldpminmhgkaaDoorKbA
import Derived.Deep.OwnRows
import Derived.Deep.RegionLaw
import Derived.Lib.ItoaNum
import Derived.Test.YthcldpminmhgkaaDoorKb1
import Derived.Test.YthcldpminmhgkaaDoorKb10
import Derived.Test.YthcldpminmhgkaaDoorKb13
import Derived.Test.YthcldpminmhgkaaDoorKb15
import Derived.Test.YthcldpminmhgkaaDoorKb2
import Derived.Test.YthcldpminmhgkaaDoorKb21
import Derived.Test.YthcldpminmhgkaaDoorKb22
import Derived.Test.YthcldpminmhgkaaDoorKb5
import Derived.Test.YthcldpminmhgkaaDoorKb7
import Derived.Test.YthcldpminmhgkaaDoorKb9
import Derived.Test.YthcldpminmhgkaaDoorRows
set_option maxRecDepth 100000
set_option maxHeartbeats 4000000
set_option linter.unusedSimpArgs false
set_option linter.unusedVariables false
section
namespace Go.Proofs.YthcldpminmhgkaaDoor
open Go.RowKit
def NoRet (p : Int) (v : Value) (w : World) (e : Ending) (w' : World) : Prop := Below w.heap.size w w' ∧ e = .returned (.tuple #[.agg nv0, .int .i64 p, v])
theorem pparse_thrown (s : ByteArray) (w : World) (ea : List Addr) (ei : Nat) (p : Int) (hsc : ∀ W, Below w.heap.size w W → Calls Tryd.prog 43 #[.string s] W fun e w' => Below W.heap.size W w' ∧ e = .panicked [{ v := fltV p (errI ea ei), recovered := false }]) :
  Calls Tryd.prog 26 #[.string s] w (NoRet p (errI ea ei) w) := by
 have hmf : ∀ (fn : Fn) (first cap : Array Value) (w : World), (Instr.makeFunc fn first cap).run Tryd.prog w = .ok (.func fn first cap) w := fun _ _ _ _ => rfl
 have hbw : Below w.heap.size w (((w.alloc zO).alloc (.cells #[.int .i64 0] 3)).alloc (.cells #[.nilIface] 35)) :=
  (((Below.refl _ _).alloc (Nat.le_refl _) _).alloc (by rw [World.size_alloc]; omega) _).alloc (by rw [World.size_alloc, World.size_alloc]; omega) _
 have HB1 := LH hbw
 have HZ1 := LH (((Blk.new w 27 zA).alloc (.cells #[.int .i64 0] 3)).alloc (.cells #[.nilIface] 35))
 have HI1 := LH (show Blk (((w.alloc zO).alloc (.cells #[.int .i64 0] 3)).alloc (.cells #[.nilIface] 35)) (w.heap.size + 1) 3 #[.int .i64 0] from by have h := (Blk.new (w.alloc zO) 3 #[.int .i64 0]).alloc (.cells #[.nilIface] 35); rw [World.size_alloc] at h; exact h)
 have HN1 := LH (show Blk (((w.alloc zO).alloc (.cells #[.int .i64 0] 3)).alloc (.cells #[.nilIface] 35)) (w.heap.size + 1 + 1) 35 #[.nilIface] from by have h := Blk.new ((w.alloc zO).alloc (.cells #[.int .i64 0] 3)) 35 #[.nilIface]; rw [World.size_alloc, World.size_alloc] at h; exact h)
 have HW1 := LH (show (((w.alloc zO).alloc (.cells #[.int .i64 0] 3)).alloc (.cells #[.nilIface] 35)).heap.size = w.heap.size + 3 from by rw [World.size_alloc, World.size_alloc, World.size_alloc])
 have HSC := LH (hsc _ hbw)
 clear hbw hsc
 go_enter_defers Tryd.func26, Tryd.ntmps26
 go_wp2_with fail
 generalize ((w.alloc zO).alloc (.cells #[.int .i64 0] 3)).alloc (.cells #[.nilIface] 35) = w1 at *
 refine HSC.out.mono ?_
 rintro e w3 ⟨hb3, rfl⟩
 have HB3 := LH (HB1.out.trans (hb3.mono HB1.out.size))
 have HZ3 := LH (HZ1.out.belowW hb3); have HI3 := LH (HI1.out.belowW hb3); have HN3 := LH (HN1.out.belowW hb3)
 clear hb3
 go_wp2
 refine leaves_cons (f := 42) (args := #[.pointer (some ⟨w.heap.size, 0, none⟩), .pointer (some ⟨w.heap.size + 1, 0, none⟩), .pointer (some ⟨w.heap.size + 1 + 1, 0, none⟩)]) (by simp) (by simp [go_sem]) ?_
 refine (pclose_fault w.heap.size p ea ei [] w3 HZ3.out HI3.out HN3.out).mono ?_
 rintro e u' w'' ⟨rfl, rfl, hbc, hzz, hii, hnn⟩
 have HBF := LH (HB3.out.trans (hbc.mono (Nat.le_refl _)))
 unfold nv0 at hzz
 have z0 := hzz.cell 0; have z1 := hzz.cell 1; have z2 := hzz.cell 2; have z3 := hzz.cell 3; have z4 := hzz.cell 4; have z5 := hzz.cell 5; have z6 := hzz.cell 6; have z7 := hzz.cell 7; have z8 := hzz.cell 8; have z9 := hzz.cell 9; have z10 := hzz.cell 10; have z11 := hzz.cell 11
 have i0 := hii.cell 0; have n0 := hnn.cell 0
 simp only [List.getElem?_toArray, List.getElem?_cons_zero, List.getElem?_cons_succ] at z0 z1 z2 z3 z4 z5 z6 z7 z8 z9 z10 z11 i0 n0
 clear hzz hii hnn hbc
 simp [Leaves, settle, results, Tryd.results26, go_sem, z0, z1, z2, z3, z4, z5, z6, z7, z8, z9, z10, z11, i0, n0]
 exact ⟨HBF.out, rfl⟩
theorem parse_deep {s : ByteArray} {n : Nat} (hc : checkS s.data.toList = .inl n) (hn : 64 < n) (w : World) (ea : List Addr) (ei ej : Nat) (hs : s.size ≤ 10000000) (hE : ClsEnv w) (hv : ErrAt w 1 (errI ea ei)) (hd : ErrAt w 18 (errI ea ej)) :
  Calls Tryd.prog 26 #[.string s] w (NoRet 0 (errI ea ej) w) :=
 pparse_thrown s w ea ej 0 fun W hW => pscanned_deep s W ea ei ej hs (hE.belowB hE.2 hW) (hv.below hv.2 hW) (hd.below hd.2 hW) n hc hn
end Go.Proofs.YthcldpminmhgkaaDoor
end
section
namespace Go.Proofs.YthcldpminmhgkaaDoor
theorem patOk_cons {c : UInt8} {b : List UInt8} (h : c ≠ 92) (hb : patOk b) : patOk (c :: b) := by
 cases b with
 | nil => exact h
 | cons d r => rw [patOk, if_neg h]; exact hb
theorem patOk_esc {d : UInt8} {b : List UInt8} (hb : patOk b) : patOk (92 :: d :: b) := by
 rw [patOk, if_pos rfl]; exact hb
theorem cls_92 : cls 92 = 4 := by decide +kernel
theorem ne92 {c : UInt8} (h : cls c ≠ 4) : c ≠ 92 := fun e => h (by rw [e]; exact cls_92)
theorem pe_ok {d : UInt8} {b : List UInt8} (hb : patOk b) : patOk (pe d ++ b) ∧ (pe d).length ≤ 2 := by
 unfold pe
 split
 ·exact ⟨patOk_esc hb, by simp⟩
 ·rename_i h
  exact ⟨patOk_cons (ne92 (fun e => h (.inr e))) hb, by simp⟩
theorem runL_pat : ∀ (l : List UInt8) (r : Rn), runL l = some r → patOk r.pat ∧ r.pat.length ≤ r.len ∧ r.text.length ≤ r.len
 | [], r, h => by simp [runL] at h; subst h; exact ⟨trivial, by simp, by simp⟩
 | [c], r, h => by
  unfold runL at h
  split at h
  ·cases h; exact ⟨trivial, by simp, by simp⟩
  split at h
  ·rename_i h3
   cases h; exact ⟨patOk_cons (ne92 (by omega)) trivial, by simp, by simp⟩
  split at h
  ·cases h
  ·rename_i h4
   cases h; exact ⟨patOk_cons (ne92 h4) trivial, by simp, by simp⟩
 | c :: d :: t, r, h => by
  unfold runL at h
  split at h
  ·cases h; exact ⟨trivial, by simp, by simp⟩
  split at h
  ·rename_i h3
   obtain ⟨y, hy, rfl⟩ := Option.map_eq_some_iff.1 h
   obtain ⟨h5, h6, h7⟩ := runL_pat (d :: t) y hy
   refine ⟨patOk_cons (ne92 (by omega)) h5, ?_, ?_⟩ <;> (simp [Rn.add]; omega)
  split at h
  ·obtain ⟨y, hy, rfl⟩ := Option.map_eq_some_iff.1 h
   obtain ⟨h5, h6, h7⟩ := runL_pat t y hy
   obtain ⟨g1, g2⟩ := pe_ok (d := d) h5
   refine ⟨g1, ?_, ?_⟩ <;> (simp [Rn.add]; omega)
  ·rename_i h4
   obtain ⟨y, hy, rfl⟩ := Option.map_eq_some_iff.1 h
   obtain ⟨h5, h6, h7⟩ := runL_pat (d :: t) y hy
   refine ⟨patOk_cons (ne92 h4) h5, ?_, ?_⟩ <;> (simp [Rn.add]; omega)
theorem quotedL_txt : ∀ (l : List UInt8) (x : List UInt8 × Nat), quotedL l = some x → x.1.length ≤ x.2
 | [], x, h => by simp [quotedL] at h
 | [c], x, h => by
  unfold quotedL at h
  split at h
  ·cases h; simp
  ·cases h
 | c :: d :: t, x, h => by
  unfold quotedL at h
  split at h
  ·cases h; simp
  ·split at h
   ·obtain ⟨y, hy, rfl⟩ := Option.map_eq_some_iff.1 h
    have := quotedL_txt t y hy
    simp; omega
   ·obtain ⟨y, hy, rfl⟩ := Option.map_eq_some_iff.1 h
    have := quotedL_txt (d :: t) y hy
    simp; omega
theorem tok_ok {l : List UInt8} {k : Tk} (h : tokOf l = some k) : (k.kind = 2 → patOk k.text) ∧ k.text.length ≤ k.len := by
 cases l with
 | nil => simp [tokOf] at h
 | cons c t =>
  rw [tokOf] at h
  split at h
  ·injection h with h; rw [← h]
   exact ⟨fun _ => trivial, by simp⟩
  split at h
  ·obtain ⟨x, hx, rfl⟩ := Option.map_eq_some_iff.1 h
   have := quotedL_txt t x hx
   exact ⟨fun h => by simp at h, by simp; omega⟩
  have hnum : ∀ {a : Int} {z : List UInt8} {n : Nat} {k : Tk}, numTk a z n = some k → (k.kind = 2 → patOk k.text) ∧ k.text.length ≤ k.len := by
   intro a z n k hk
   unfold numTk at hk
   split at hk
   ·injection hk with hk; rw [← hk]; exact ⟨fun _ => trivial, by simp⟩
   ·cases hk
  split at h
  ·split at h <;> exact hnum h
  split at h
  ·split at h
   ·injection h with h; rw [← h]; exact ⟨fun _ => trivial, by simp⟩
   ·exact hnum h
  split at h
  ·exact hnum h
  unfold runTk at h
  obtain ⟨x, hx, rfl⟩ := Option.map_eq_some_iff.1 h
  obtain ⟨h5, h6, h7⟩ := runL_pat _ x hx
  split
  ·exact ⟨fun _ => h5, h6⟩
  ·refine ⟨fun h2 => ?_, ?_⟩
   ·have h2' : kwd ((c :: t).take x.len) = 2 := h2
    unfold kwd at h2'
    repeat' split at h2'
    all_goals omega
   ·show (if kwd ((c :: t).take x.len) = 1 then x.text else []).length ≤ x.len
    split
    ·exact h7
    ·simp
theorem scanF_ok {f : Nat} {l : List UInt8} {i : Nat} {la : List Lx} (h : scanF f l i = (la, none)) :
  ∀ x ∈ la, (x.kind = 2 → patOk x.text) ∧ x.text.length ≤ l.length := by
 induction f generalizing l i la with
 | zero => simp [scanF] at h
 | succ f ih =>
  cases l with
  | nil =>
   simp only [scanF, Prod.mk.injEq] at h
   rw [← h.1]
   intro x hx
   rw [List.mem_singleton] at hx
   subst hx
   exact ⟨fun h => by simp at h, by simp⟩
  | cons c t =>
   rw [scanF] at h
   split at h
   ·intro x hx
    have := ih h x hx
    exact ⟨this.1, Nat.le_trans this.2 (by simp)⟩
   ·rename_i hc
    split at h
    ·cases h
    ·rename_i k ht
     have hl := tok_len ht (fun d hd => by simp only [List.head?_cons, Option.some.injEq] at hd; rw [← hd]; exact hc)
     rcases hr : scanF f ((c :: t).drop k.len) (i + k.len) with ⟨u, _ | z⟩
     ·rw [hr] at h
      simp only [ahead, List.singleton_append, Prod.mk.injEq, and_true] at h
      rw [← h]
      intro x hx
      rw [List.mem_cons] at hx
      rcases hx with rfl | hx
      ·have := tok_ok ht
       exact ⟨this.1, Nat.le_trans this.2 hl.2⟩
      ·have := ih hr x hx
       refine ⟨this.1, Nat.le_trans this.2 ?_⟩
       rw [List.length_drop]; omega
     ·rw [hr] at h
      simp [ahead] at h
theorem scan_tkok {l : List UInt8} {la : List Lx} (h : scanL l = (la, none)) (hl : l.length ≤ 10000000) : TkOk (la.map Lx.lt) := by
 have hc := scanL_count l
 rw [h] at hc
 refine ⟨by rw [List.length_map]; simp only [] at hc; omega, fun t ht => ?_⟩
 obtain ⟨x, hx, rfl⟩ := List.mem_map.1 ht
 have := scanF_ok h x hx
 exact ⟨this.1, Nat.le_trans this.2 hl⟩
def stopB (z : UInt8) : Prop := (cls z = 1 ∨ cls z = 2) ∧ isDg z = false
theorem runY_stop {z : UInt8} (hz : stopB z) (b : List UInt8) : runL (z :: b) = some ⟨[], [], 0, 0⟩ := by
 cases b <;> (unfold runL; rw [if_pos hz.1])
theorem runY_stopApp {z : UInt8} (hz : stopB z) : ∀ (a b : List UInt8) (r : Rn), runL a = some r → runL (a ++ z :: b) = some r
 | [], b, r, h => by
  unfold runL at h; cases h
  exact runY_stop hz b
 | [c], b, r, h => by
  unfold runL at h
  rw [List.singleton_append, runL]
  split at h
  ·rename_i hc; cases h; rw [if_pos hc]
  ·rename_i hc
   rw [if_neg hc]
   split at h
   ·rename_i h3; cases h; rw [if_pos h3, runY_stop hz]; rfl
   ·rename_i h3
    rw [if_neg h3]
    split at h
    ·cases h
    ·rename_i h4; cases h; rw [if_neg h4, runY_stop hz]; rfl
 | c :: d :: t, b, r, h => by
  rw [runL] at h
  rw [List.cons_append, List.cons_append, runL]
  split at h
  ·rename_i hc; cases h; rw [if_pos hc]
  ·rename_i hc
   rw [if_neg hc]
   split at h
   ·rename_i h3
    obtain ⟨y, hy, rfl⟩ := Option.map_eq_some_iff.1 h
    have := runY_stopApp hz (d :: t) b y hy
    rw [List.cons_append] at this
    rw [if_pos h3, this]; rfl
   ·rename_i h3
    rw [if_neg h3]
    split at h
    ·rename_i h4
     obtain ⟨y, hy, rfl⟩ := Option.map_eq_some_iff.1 h
     rw [if_pos h4, runY_stopApp hz t b y hy]; rfl
    ·rename_i h4
     obtain ⟨y, hy, rfl⟩ := Option.map_eq_some_iff.1 h
     have := runY_stopApp hz (d :: t) b y hy
     rw [List.cons_append] at this
     rw [if_neg h4, this]; rfl
theorem digs_stopApp {z : UInt8} (hz : stopB z) (a b : List UInt8) : digs (a ++ z :: b) = digs a := by
 unfold digs
 induction a with
 | nil => rw [List.nil_append, List.takeWhile_cons, hz.2]; rfl
 | cons c a ih => rw [List.cons_append, List.takeWhile_cons, List.takeWhile_cons, ih]
theorem numTk_stopApp {z : UInt8} (hz : stopB z) (kind : Int) (a b : List UInt8) (m : Nat) : numTk kind (a ++ z :: b) m = numTk kind a m := by
 unfold numTk numOkB
 rw [digs_stopApp hz]
theorem tok_stopApp {z : UInt8} (hz : stopB z) {c : UInt8} {a b : List UInt8} {k : Tk} (h : tokOf (c :: a) = some k) : tokOf (c :: (a ++ z :: b)) = some k := by
 simp only [tokOf] at h ⊢
 split at h
 ·rename_i hs; rw [if_pos hs]; exact h
 ·rename_i hs
  rw [if_neg hs]
  split at h
  ·rename_i hc
   obtain ⟨y, hy, rfl⟩ := Option.map_eq_some_iff.1 h
   rw [if_pos hc, quotedL_app a _ y hy]; rfl
  ·rename_i hc
   rw [if_neg hc]
   split at h
   ·rename_i h94
    rw [if_pos h94]
    cases a with
    | nil =>
     have : numTk 18 [] 1 = none := by decide
     rw [if_neg (by simp)] at h
     rw [this] at h; cases h
    | cons d a =>
     simp only [List.cons_append, List.head?_cons, List.drop_succ_cons, List.drop_zero] at h ⊢
     rw [numTk_stopApp hz, ← List.cons_append, numTk_stopApp hz]
     exact h
   ·rename_i h94
    rw [if_neg h94]
    split at h
    ·rename_i h126
     rw [if_pos h126, digs_stopApp hz, numTk_stopApp hz]
     exact h
    ·rename_i h126
     rw [if_neg h126]
     split at h
     ·rename_i h64
      rw [if_pos h64, numTk_stopApp hz]; exact h
     ·rename_i h64
      rw [if_neg h64]
      unfold runTk at h ⊢
      obtain ⟨r, hr, rfl⟩ := Option.map_eq_some_iff.1 h
      have hlen := runL_len _ _ hr
      have := runY_stopApp hz (c :: a) b r hr
      rw [List.cons_append] at this
      rw [this]
      simp only [Option.map_some]
      rw [← List.cons_append, List.take_append_of_le_length hlen]
theorem scan_stopApp {z : UInt8} (hz : stopB z) : ∀ (f : Nat) (p q : List UInt8) (i f' : Nat) (la : List Lx), p.length < f → scanF f p i = (la, none) → p.length + q.length + 1 < f' →
  scanF f' (p ++ z :: q) i = ahead la.dropLast (scanF (q.length + 2) (z :: q) (i + p.length))
 | 0, p, q, i, f', la, h, _, _ => by omega
 | _, p, q, i, 0, la, _, _, h => by omega
 | f + 1, [], q, i, f' + 1, la, h, h2, h3 => by
  cases h2
  rw [List.nil_append, List.dropLast_singleton, ahead_nil _ (scanF_or _ _ _)]
  exact scanF_fuel _ _ _ _ (by simp only [List.length_nil, List.length_cons] at h3 ⊢; omega) (by simp only [List.length_cons]; omega)
 | f + 1, c :: t, q, i, f' + 1, la, h, h2, h3 => by
  simp only [List.length_cons] at h h3
  rw [scanF] at h2
  rw [List.cons_append, scanF]
  split at h2
  ·rename_i hc
   rw [if_pos hc, scan_stopApp hz f t q (i + 1) f' la (by omega) h2 (by omega), List.length_cons, show i + 1 + t.length = i + (t.length + 1) from by omega]
  ·rename_i hc
   rw [if_neg hc]
   split at h2
   ·cases h2
   ·rename_i k ht
    have hk := tok_len ht (fun d hd => by cases hd; exact hc)
    simp only [List.length_cons] at hk
    rw [tok_stopApp hz ht]
    rcases hr : scanF f ((c :: t).drop k.len) (i + k.len) with ⟨u, _ | z⟩
    ·rw [hr] at h2
     cases h2
     have hd : ((c :: t).drop k.len).length = t.length + 1 - k.len := by rw [List.length_drop, List.length_cons]
     have := scan_stopApp hz f _ q (i + k.len) f' u (by omega) hr (by omega)
     simp only []
     rw [← List.cons_append, List.drop_append_of_le_length (by rw [List.length_cons]; omega), this, ahead_ahead]
     simp only [List.singleton_append]
     rw [List.dropLast_cons_of_ne_nil (scanF_ne _ _ _ _ hr), hd, List.length_cons,
      show i + k.len + (t.length + 1 - k.len) = i + (t.length + 1) from by omega]
    ·rw [hr] at h2; cases h2
theorem scanL_stopApp {z : UInt8} (hz : stopB z) {p q : List UInt8} {la : List Lx} (h : scanL p = (la, none)) : scanL (p ++ z :: q) = ahead la.dropLast (upAll p.length (scanL (z :: q))) := by
 unfold scanL at h ⊢
 rw [scan_stopApp hz _ p q 0 _ la (by omega) h (by rw [List.length_append, List.length_cons]; omega), ← scanF_up, List.length_cons]
theorem scanL_single {c : UInt8} (h : singleK c ≠ 0) (t : List UInt8) : scanL (c :: t) = ahead [⟨singleK c, [], 0, 0, 1⟩] (upAll 1 (scanL t)) := by
 have hc : cls c ≠ 1 := by
  have := all_bytes' (p := fun c => decide (singleK c ≠ 0 → cls c ≠ 1)) (by decide +kernel) c
  exact of_decide_eq_true this h
 unfold scanL
 rw [List.length_cons, scanF, if_neg hc, ← scanF_up, tokOf, if_pos h]
 rfl
def lk (x : Lt) : Int × List UInt8 × Int := (x.kind, x.text, x.n)
def lkX (x : Lx) : Int × List UInt8 × Int := (x.kind, x.text, x.n)
theorem lkX_up (d : Nat) (l : List Lx) : (l.map (Lx.up d)).map lkX = l.map lkX := by rw [List.map_map]; rfl
theorem lk_lt (l : List Lx) : (l.map Lx.lt).map lk = l.map lkX := by rw [List.map_map]; rfl
def Toks (l : List UInt8) (T : List Lt) : Prop := ∃ (la : List Lx) (e : Lx), scanL l = (la ++ [e], none) ∧ e.kind = 0 ∧ la.map lkX = T.map lk
theorem Toks.nil : Toks [] [] := ⟨[], _, scanL_nil', rfl, rfl⟩
 where scanL_nil' : scanL [] = ([] ++ [⟨0, [], 0, 0, 0⟩], none) := rfl
theorem Toks.app {z : UInt8} (hz : stopB z) {p q : List UInt8} {A B : List Lt} (h : Toks p A) (h2 : Toks (z :: q) B) : Toks (p ++ z :: q) (A ++ B) := by
 obtain ⟨la, e, hs, he, hl⟩ := h
 obtain ⟨lb, e2, hs2, he2, hl2⟩ := h2
 refine ⟨la ++ lb.map (Lx.up p.length), e2.up p.length, ?_, he2, ?_⟩
 ·rw [scanL_stopApp hz hs, hs2, List.dropLast_concat]
  simp [upAll, ahead]
 ·rw [List.map_append, List.map_append, hl, lkX_up, hl2]
theorem Toks.blank {z : UInt8} (hz : cls z = 1) {q : List UInt8} {B : List Lt} (h : Toks q B) : Toks (z :: q) B := by
 obtain ⟨la, e, hs, he, hl⟩ := h
 refine ⟨la.map (Lx.up 1), e.up 1, ?_, he, by rw [lkX_up, hl]⟩
 have : scanL (z :: q) = upAll 1 (scanL q) := by
  unfold scanL
  rw [List.length_cons, scanF, if_pos hz, ← scanF_up]
 rw [this, hs]; simp [upAll]
theorem Toks.single {c : UInt8} {k : Int} (hk : singleK c = k) (h0 : k ≠ 0) {q : List UInt8} {B : List Lt} (h : Toks q B) : Toks (c :: q) (⟨k, [], 0, 0, 0⟩ :: B) := by
 obtain ⟨la, e, hs, he, hl⟩ := h
 refine ⟨⟨k, [], 0, 0, 1⟩ :: la.map (Lx.up 1), e.up 1, ?_, he, ?_⟩
 ·rw [scanL_single (by rw [hk]; exact h0), hs, hk]; simp [upAll, ahead]
 ·rw [List.map_cons, List.map_cons, lkX_up, hl]; rfl
theorem Toks.one {l : List UInt8} {x e : Lx} (h : scanL l = ([x, e], none)) (he : e.kind = 0) : Toks l [⟨x.kind, x.text, x.n, 0, 0⟩] := ⟨[x], e, h, he, rfl⟩
theorem lk_split {A1 A2 B : List Lt} (h : B.map lk = (A1 ++ A2).map lk) : ∃ B1 B2, B = B1 ++ B2 ∧ B1.map lk = A1.map lk ∧ B2.map lk = A2.map lk := by
 rw [List.map_append, List.map_eq_append_iff] at h
 exact h
theorem lk_head {a : Lt} {A B : List Lt} (h : B.map lk = (a :: A).map lk) : ∃ b B', B = b :: B' ∧ b.kind = a.kind ∧ b.text = a.text ∧ b.n = a.n ∧ B'.map lk = A.map lk := by
 rw [List.map_cons, List.map_eq_cons_iff] at h
 obtain ⟨b, B', e, hb, hB⟩ := h
 unfold Go.Proofs.YthcldpminmhgkaaDoor.lk at hb
 simp only [Prod.mk.injEq] at hb
 exact ⟨b, B', e, hb.1, hb.2.1, hb.2.2, hB⟩
theorem lk_none {B : List Lt} (h : B.map lk = ([] : List Lt).map lk) : B = [] := by simpa using h
theorem starT_lk {a b : Lt} (h : b.kind = a.kind) (h2 : b.text = a.text) : starT b = starT a := by unfold starT; rw [h, h2]
theorem sideT_lk {a b : Lt} (h : b.kind = a.kind) (h2 : b.text = a.text) : sideT b = sideT a := by unfold sideT; rw [starT_lk h h2, h]
theorem sideN_lk {a b : Lt} (h : b.kind = a.kind) (h2 : b.text = a.text) (i : Bool) : sideN b i = sideN a i := by unfold sideN; rw [h, h2]
theorem D.lk {p : Pt} {A : List Lt} {n : Nat} {v : Vl} (h : D p A n v) : ∀ B : List Lt, B.map lk = A.map lk → D p B n v := by
 induction h with
 | word ht =>
  intro B hB
  obtain ⟨b, B', rfl, h1, h2, h3, h4⟩ := lk_head hB
  obtain rfl := lk_none h4
  rw [← h2]; exact .word (h1.trans ht)
 | edits ht hu hn =>
  intro B hB
  obtain ⟨b, B', rfl, h1, h2, h3, h4⟩ := lk_head hB
  obtain ⟨c, B', rfl, g1, g2, g3, g4⟩ := lk_head h4
  obtain rfl := lk_none g4
  rw [← h2, ← g3]; exact .edits (h1.trans ht) (g1.trans hu) (by rw [g3]; exact hn)
 | pat ht =>
  intro B hB
  obtain ⟨b, B', rfl, h1, h2, h3, h4⟩ := lk_head hB
  obtain rfl := lk_none h4
  rw [← h2]; exact .pat (h1.trans ht)
 | quo ht =>
  intro B hB
  obtain ⟨b, B', rfl, h1, h2, h3, h4⟩ := lk_head hB
  obtain rfl := lk_none h4
  rw [← h2]; exact .quo (h1.trans ht)
 | slop ht hu hn =>
  intro B hB
  obtain ⟨b, B', rfl, h1, h2, h3, h4⟩ := lk_head hB
  obtain ⟨c, B', rfl, g1, g2, g3, g4⟩ := lk_head h4
  obtain rfl := lk_none g4
  rw [← h2, ← g3]; exact .slop (h1.trans ht) (g1.trans hu) (by rw [g3]; exact hn)
 | span ha hb hc hd he =>
  intro B hB
  obtain ⟨a1, B', rfl, p1, p2, p3, p4⟩ := lk_head hB
  obtain ⟨a2, B', rfl, q1, q2, q3, q4⟩ := lk_head p4
  obtain ⟨a3, B', rfl, r1, r2, r3, r4⟩ := lk_head q4
  obtain ⟨a4, B', rfl, s1, s2, s3, s4⟩ := lk_head r4
  obtain ⟨a5, B', rfl, t1, t2, t3, t4⟩ := lk_head s4
  obtain rfl := lk_none t4
  rw [← p1, ← t1, ← sideN_lk q1 q2, ← sideN_lk s1 s2]
  exact .span (by rw [p1]; exact ha) (by rw [sideT_lk q1 q2]; exact hb) (by rw [r1]; exact hc) (by rw [sideT_lk s1 s2]; exact hd) (by rw [t1]; exact he)
 | group ho _ hc ih =>
  intro B hB
  obtain ⟨o1, B', rfl, h1, h2, h3, h4⟩ := lk_head hB
  obtain ⟨B1, B2, rfl, g1, g2⟩ := lk_split h4
  obtain ⟨c1, B', rfl, k1, k2, k3, k4⟩ := lk_head g2
  obtain rfl := lk_none k4
  exact .group (h1.trans ho) (ih B1 g1) (k1.trans hc)
 | least ho _ hc hl ih =>
  intro B hB
  obtain ⟨o1, B', rfl, h1, h2, h3, h4⟩ := lk_head hB
  obtain ⟨B1, B2, rfl, g1, g2⟩ := lk_split h4
  obtain ⟨c1, B', rfl, k1, k2, k3, k4⟩ := lk_head g2
  obtain ⟨l1, B', rfl, m1, m2, m3, m4⟩ := lk_head k4
  obtain rfl := lk_none m4
  rw [← m3]
  exact .least (h1.trans ho) (ih B1 g1) (k1.trans hc) (m1.trans hl)
 | leafB _ ih => exact fun B hB => .leafB (ih B hB)
 | groupB _ ih => exact fun B hB => .groupB (ih B hB)
 | bodyA _ ih => exact fun B hB => .bodyA (ih B hB)
 | field hw hc _ ih =>
  intro B hB
  obtain ⟨w1, B', rfl, h1, h2, h3, h4⟩ := lk_head hB
  obtain ⟨c1, B', rfl, g1, g2, g3, g4⟩ := lk_head h4
  rw [← h2]
  exact .field (h1.trans hw) (g1.trans hc) (ih _ g4)
 | all hs hc ht =>
  intro B hB
  obtain ⟨w1, B', rfl, h1, h2, h3, h4⟩ := lk_head hB
  obtain ⟨c1, B', rfl, g1, g2, g3, g4⟩ := lk_head h4
  obtain ⟨t1, B', rfl, k1, k2, k3, k4⟩ := lk_head g4
  obtain rfl := lk_none k4
  exact .all (by rw [starT_lk h1 h2]; exact hs) (g1.trans hc) (by rw [starT_lk k1 k2]; exact ht)
 | atomP _ ih => exact fun B hB => .atomP (ih B hB)
 | sfx _ hb ih =>
  intro B hB
  obtain ⟨B1, B2, rfl, g1, g2⟩ := lk_split hB
  obtain ⟨c1, B', rfl, k1, k2, k3, k4⟩ := lk_head g2
  obtain rfl := lk_none k4
  rw [← k1, ← k3]
  exact .sfx (ih B1 g1) (by rw [k1]; exact hb)
 | pieceU _ ih => exact fun B hB => .pieceU (ih B hB)
 | not ht _ ih =>
  intro B hB
  obtain ⟨w1, B', rfl, h1, h2, h3, h4⟩ := lk_head hB
  exact .not (h1.trans ht) (ih _ h4)
 | maxU _ ih => exact fun B hB => .maxU (ih B hB)
 | bar _ hb _ ih1 ih2 =>
  intro B hB
  obtain ⟨B1, B2, rfl, g1, g2⟩ := lk_split hB
  obtain ⟨c1, B', rfl, k1, k2, k3, k4⟩ := lk_head g2
  exact .bar (ih1 B1 g1) (k1.trans hb) (ih2 _ k4)
 | andM _ ih => exact fun B hB => .andM (ih B hB)
 | and _ hb _ ih1 ih2 =>
  intro B hB
  obtain ⟨B1, B2, rfl, g1, g2⟩ := lk_split hB
  obtain ⟨c1, B', rfl, k1, k2, k3, k4⟩ := lk_head g2
  exact .and (ih1 B1 g1) (k1.trans hb) (ih2 _ k4)
 | orA _ ih => exact fun B hB => .orA (ih B hB)
 | or _ hb _ ih1 ih2 =>
  intro B hB
  obtain ⟨B1, B2, rfl, g1, g2⟩ := lk_split hB
  obtain ⟨c1, B', rfl, k1, k2, k3, k4⟩ := lk_head g2
  exact .or (ih1 B1 g1) (k1.trans hb) (ih2 _ k4)
 | clauseO _ ih => exact fun B hB => .clauseO (ih B hB)
 | sign hs _ ih =>
  intro B hB
  obtain ⟨w1, B', rfl, h1, h2, h3, h4⟩ := lk_head hB
  rw [← h1]
  exact .sign (by rw [h1]; exact hs) (ih _ h4)
 | one _ ih => exact fun B hB => .one (ih B hB)
 | more _ _ ih1 ih2 =>
  intro B hB
  obtain ⟨B1, B2, rfl, g1, g2⟩ := lk_split hB
  exact .more (ih1 B1 g1) (ih2 B2 g2)
theorem D.list2 {A B : List Lt} {n m : Nat} {v u : Vl} (h : D .list A n v) (h2 : D .list B m u) : D .list (A ++ B) (max n m) fun f => v f ++ u f := by
 generalize hp : Pt.list = p at h2
 induction h2 with
 | one h2 => exact .more h h2
 | more _ h2 ih _ =>
  rw [← List.append_assoc, ← Nat.max_assoc]
  have := D.more (ih hp) h2
  simpa only [List.append_assoc] using this
 | _ => cases hp
def Der (l : List UInt8) (n : Nat) (t : Nd) : Prop := ∃ (A : List Lt) (v : Vl), Toks l A ∧ D .list A n v ∧ t = treeN (v [])
theorem runI_of {l : List Lt} : ∀ {m m' : Mc} (i : Nat), runM m l = some m' → runI m i l = .inl m' := by
 induction l with
 | nil => intro m m' i h; rw [runM] at h; injection h with h; subst h; rfl
 | cons t r ih =>
  intro m m' i h
  rw [runM] at h
  rw [runI]
  cases hs : stepM m t with
  | none => rw [hs] at h; cases h
  | some m2 => rw [hs] at h; exact ih (i + 1) h
theorem Der.check {l : List UInt8} {n : Nat} {t : Nd} (h : Der l n t) : checkS l = .inl n := by
 obtain ⟨A, v, ⟨la, e, hs, he, hl⟩, hD, _⟩ := h
 have hD2 := hD.lk (la.map Lx.lt) (by rw [lk_lt]; exact hl)
 obtain ⟨m, hm, _, hn⟩ := hD2.run (e := e.lt) he
 unfold checkS
 rw [hs]
 simp only [List.map_append, List.map_cons, List.map_nil]
 rw [runI_of 0 hm]
 simp only [hn]
theorem der_mk {l : List UInt8} {A : List Lt} {n : Nat} {v : Vl} {t : Nd} (hT : Toks l A) (hD : D .list A n v) (ht : t = treeN (v [])) : Der l n t := ⟨A, v, hT, hD, ht⟩
theorem Der.toks {l : List UInt8} {n : Nat} {t : Nd} (h : Der l n t) : ∃ (la : List Lx) (A : List Lt) (e : Lt) (v : Vl), scanL l = (la, none) ∧ la.map Lx.lt = A ++ [e] ∧ e.kind = 0 ∧ D .list A n v ∧ t = treeN (v []) := by
 obtain ⟨A, v, ⟨la, e, hs, he, hl⟩, hD, ht⟩ := h
 exact ⟨la ++ [e], la.map Lx.lt, e.lt, v, hs, by simp, he, hD.lk _ (by rw [lk_lt]; exact hl), ht⟩
def one1 (g : List UInt8 → Nd) : Vl := fun f => [(0, g f)]
theorem D.single {A : List Lt} {n : Nat} {g : List UInt8 → Nd} (h : D .unary A n (one1 g)) : D .list A n (one1 g) := .one (.clauseO (.orA (.andM (.maxU h))))
def tkOpen : Lt := ⟨8, [], 0, 0, 0⟩
def tkClose : Lt := ⟨9, [], 0, 0, 0⟩
theorem D.paren {A : List Lt} {n : Nat} {v : Vl} (h : D .list A n v) : D .piece (tkOpen :: (A ++ [tkClose])) (n + 1) (one1 fun f => treeN (v f)) :=
 .atomP (.bodyA (.groupB (.group rfl h rfl)))
theorem stop41 : stopB 41 := ⟨.inr (by decide), by decide⟩
theorem stop32 : stopB 32 := ⟨.inl (by decide), by decide⟩
theorem blank32 : cls 32 = 1 := by decide
theorem toks_close {q : List UInt8} {B : List Lt} (h : Toks q B) : Toks (41 :: q) (tkClose :: B) := .single (by decide) (by decide) h
theorem toks_open {q : List UInt8} {B : List Lt} (h : Toks q B) : Toks (40 :: q) (tkOpen :: B) := .single (by decide) (by decide) h
theorem toks_paren {p q : List UInt8} {A B : List Lt} (h : Toks p A) (h2 : Toks q B) : Toks (40 :: (p ++ 41 :: q)) (tkOpen :: (A ++ tkClose :: B)) :=
 toks_open (.app stop41 h (toks_close h2))
theorem Der.paren {q : List UInt8} {n : Nat} {t : Nd} (h : Der q n t) : Der (40 :: (q ++ [41])) (n + 1) t := by
 obtain ⟨A, v, hT, hD, rfl⟩ := h
 exact ⟨_, _, toks_paren hT .nil, (D.pieceU hD.paren).single, rfl⟩
def tkNot : Lt := ⟨6, [], 0, 0, 0⟩
theorem toks_not : Toks [78, 79, 84] [tkNot] := ⟨[⟨6, [], 0, 0, 3⟩], ⟨0, [], 0, 3, 3⟩, by rfl, rfl, rfl⟩
theorem Der.blank {p q : List UInt8} {n m : Nat} {x y : Nd} (h : Der p n x) (h2 : Der q m y) : ∃ t, Der (p ++ 32 :: q) (max n m) t := by
 obtain ⟨A, v, hT, hD, rfl⟩ := h
 obtain ⟨B, u, hT2, hD2, rfl⟩ := h2
 exact ⟨_, _, _, .app stop32 hT (.blank blank32 hT2), hD.list2 hD2, rfl⟩
def tkMark (k : Int) : Lt := ⟨k, [], 0, 0, 0⟩
theorem toks_or : Toks [79, 82] [tkMark 5] := ⟨[⟨5, [], 0, 0, 2⟩], ⟨0, [], 0, 2, 2⟩, by rfl, rfl, rfl⟩
theorem toks_and : Toks [65, 78, 68] [tkMark 4] := ⟨[⟨4, [], 0, 0, 3⟩], ⟨0, [], 0, 3, 3⟩, by rfl, rfl, rfl⟩
theorem toks_bar : Toks [124] [tkMark 17] := ⟨[⟨17, [], 0, 0, 1⟩], ⟨0, [], 0, 1, 1⟩, by rfl, rfl, rfl⟩
def tkPlus : Lt := ⟨15, [], 0, 0, 0⟩
def tkMinus : Lt := ⟨16, [], 0, 0, 0⟩
theorem Der.signs {p q : List UInt8} {n m : Nat} {x y : Nd} (h : Der p n x) (h2 : Der q m y) : Der (43 :: 40 :: (p ++ 41 :: 32 :: 45 :: 40 :: (q ++ [41]))) (max (n + 1) (m + 1)) (ndList 0 [(1, x), (2, y)]) := by
 obtain ⟨A, v, hT, hD, rfl⟩ := h
 obtain ⟨B, u, hT2, hD2, rfl⟩ := h2
 have h1 : Toks (45 :: 40 :: (q ++ 41 :: [])) (tkMinus :: _) := .single (by decide) (by decide) (toks_paren hT2 .nil)
 have h2 : Toks (43 :: 40 :: (p ++ 41 :: 32 :: 45 :: 40 :: (q ++ 41 :: []))) (tkPlus :: _) := .single (by decide) (by decide) (toks_paren hT (.blank blank32 h1))
 have e : tkPlus :: tkOpen :: (A ++ tkClose :: tkMinus :: tkOpen :: (B ++ [tkClose])) = tkPlus :: (tkOpen :: (A ++ [tkClose])) ++ tkMinus :: (tkOpen :: (B ++ [tkClose])) := by simp
 rw [e] at h2
 exact der_mk h2 (.more (.one (.sign (s := tkPlus) (.inl rfl) (.pieceU hD.paren))) (.sign (s := tkMinus) (.inr rfl) (.pieceU hD2.paren))) rfl
end Go.Proofs.YthcldpminmhgkaaDoor
end
section
namespace Go.Proofs.YthcldpminmhgkaaDoor
open Go.RowKit
theorem parse_der {s : ByteArray} {n : Nat} {t : Nd} (h : Der s.data.toList n t) (hn : n ≤ 64) (w : World) (ea : List Addr) (ei : Nat) (hs : s.size ≤ 10000000) (hE : ClsEnv w) (hv : ErrAt w 1 (errI ea ei)) :
  Calls Tryd.prog 26 #[.string s] w (ParRet t w) := by
 have hc := h.check
 obtain ⟨la, A, e, v, hs1, hA, he, hD, rfl⟩ := h.toks
 exact pparse_ok s w ea ei hs hE hv la n hs1 hc hn (scan_tkok hs1 (by rw [← ba_size]; exact hs)) A e n v hA he hD
theorem check_der {s : ByteArray} {n : Nat} {t : Nd} (h : Der s.data.toList n t) (w : World) (ea : List Addr) (ei : Nat) (hs : s.size ≤ 10000000) (hE : ClsEnv w) (hv : ErrAt w 1 (errI ea ei)) :
  Calls Tryd.prog 25 #[.string s] w fun e w' => Below w.heap.size w w' ∧ e = .returned (.tuple #[.int .i64 (n : Int), .int .i64 0, .nilIface]) := by
 have := scheck_any s w ea ei hs hE hv
 rw [h.check] at this
 exact this
theorem Der.le {l : List UInt8} {n : Nat} {t : Nd} (h : Der l n t) : n ≤ l.length := by
 obtain ⟨la, A, e, v, hs, hA, he, hD, _⟩ := h.toks
 have h1 := hD.nest_le
 have h2 := scanL_count l
 rw [hs] at h2
 have h3 := congrArg List.length hA
 rw [List.length_map, List.length_append, List.length_singleton] at h3
 simp only [] at h2
 omega
end Go.Proofs.YthcldpminmhgkaaDoor
end
section
namespace Go.Proofs.YthcldpminmhgkaaDoor
def Bd.nil (b : Bd) : Bool := !b.open_ && !b.in_ && b.text.isEmpty
def Bd.ok (b : Bd) : Bool := !b.open_ || (!b.in_ && b.text.isEmpty)
def wildP : List UInt8 → Nat → Nat → Int → Option (Nat × Int)
 | [], _, marks, last => some (marks, last)
 | c :: r, i, marks, last =>
  if c = 42 then wildP r (i + 1) (marks + 1) i
  else if c = 63 then wildP r (i + 1) (marks + 2) last
  else if c = 92 then match r with
   | [] => none
   | d :: r2 => if d = 42 ∨ d = 63 ∨ d = 92 then wildP r2 (i + 2) marks last else none
  else wildP r (i + 1) marks last
def wildB (l : List UInt8) : Bool := match wildP l 0 0 (-1) with
 | none => false
 | some (m, last) => decide (1 < m) || (decide (m = 1) && decide (last ≠ (l.length : Int) - 1))
def maxNum : Int := 999999999
def numB (n : Int) : Bool := decide (0 ≤ n) && decide (n ≤ maxNum)
def occB (l : List Int) : Bool := l.all fun o => decide (0 ≤ o) && decide (o ≤ 2)
def ownN (kind : Int) (field text : List UInt8) (n : Int) (lo hi : Bd) (occ : List Int) (nk : Nat) : Bool :=
 if kind = 1 ∨ kind = 3 then !text.isEmpty && decide (n = 0) && lo.nil && hi.nil && occ.isEmpty && decide (nk = 0)
 else if kind = 2 then numB n && lo.nil && hi.nil && occ.isEmpty && decide (nk = 0)
 else if kind = 4 then wildB text && decide (n = 0) && lo.nil && hi.nil && occ.isEmpty && decide (nk = 0)
 else if kind = 5 then !text.isEmpty && (decide (n = 1) || decide (n = 2)) && lo.nil && hi.nil && occ.isEmpty && decide (nk = 0)
 else if kind = 6 then text.isEmpty && decide (n = 0) && lo.ok && hi.ok && occ.isEmpty && decide (nk = 0)
 else if kind = 7 then text.isEmpty && decide (n = 0) && lo.nil && hi.nil && occ.isEmpty && decide (nk = 0)
 else if kind = 8 then field.isEmpty && text.isEmpty && decide (n = 0) && lo.nil && hi.nil && occ.isEmpty && decide (nk = 0)
 else if kind = 9 then field.isEmpty && text.isEmpty && numB n && lo.nil && hi.nil && decide (occ.length = nk) && occB occ && decide (0 < nk)
 else if kind = 10 ∨ kind = 11 ∨ kind = 12 then field.isEmpty && text.isEmpty && decide (n = 0) && lo.nil && hi.nil && occ.isEmpty && decide (0 < nk)
 else if kind = 13 then field.isEmpty && text.isEmpty && decide (n = 0) && lo.nil && hi.nil && occ.isEmpty && decide (nk = 1)
 else if kind = 14 ∨ kind = 15 then field.isEmpty && text.isEmpty && numB n && lo.nil && hi.nil && occ.isEmpty && decide (nk = 1)
 else false
mutual
def goodN : Nd → Bool
 | .mk kind field text n lo hi occ ks => ownN kind field text n lo hi occ ks.length && goodNs ks
def goodNs : List Nd → Bool
 | [] => true
 | k :: ks => goodN k && goodNs ks
end
mutual
def sizeN : Nd → Nat
 | .mk _ _ _ _ _ _ _ ks => 1 + sizeNs ks
def sizeNs : List Nd → Nat
 | [] => 0
 | k :: ks => sizeN k + sizeNs ks
end
mutual
def wtN : Nd → Nat
 | .mk _ _ _ _ _ _ occ ks => 1 + occ.length + wtNs ks
def wtNs : List Nd → Nat
 | [] => 0
 | k :: ks => wtN k + wtNs ks
end
mutual
def leftN : Nd → Int → Int
 | .mk _ _ _ _ _ _ occ ks, m => leftNs ks (m - 1 - occ.length)
def leftNs : List Nd → Int → Int
 | [], m => m
 | k :: ks, m => if 0 ≤ m then leftNs ks (leftN k m) else m
end
mutual
theorem left_eq : ∀ (t : Nd) (m : Int), (0 ≤ leftN t m ↔ (wtN t : Int) ≤ m) ∧ (0 ≤ leftN t m → leftN t m = m - wtN t) ∧ leftN t m ≤ m - 1
 | .mk _ _ _ _ _ _ occ ks, m => by
  have h := lefts_eq ks (m - 1 - occ.length)
  simp only [leftN, wtN]
  omega
theorem lefts_eq : ∀ (l : List Nd) (m : Int), (0 ≤ leftNs l m ↔ (wtNs l : Int) ≤ m) ∧ (0 ≤ leftNs l m → leftNs l m = m - wtNs l) ∧ leftNs l m ≤ m
 | [], m => by simp only [leftNs, wtNs]; omega
 | k :: ks, m => by
  have h := left_eq k m
  have h2 := lefts_eq ks (leftN k m)
  simp only [leftNs, wtNs]
  by_cases hm : 0 ≤ m
  ·rw [if_pos hm]; omega
  ·rw [if_neg hm]; omega
end
def canTop (kind : Int) (field text : List UInt8) (n : Int) (lo hi : Bd) (occ : List Int) : List Nd → Nd
 | [c] => if kind = 10 ∨ kind = 11 ∨ kind = 12 ∨ (kind = 9 ∧ n = 0 ∧ occ[0]? = some 0) then c else .mk kind field text n lo hi occ [c]
 | cs => .mk kind field text n lo hi occ cs
mutual
def canonN : Nd → Nd
 | .mk kind field text n lo hi occ ks => canTop kind field text n lo hi occ (canonNs ks)
def canonNs : List Nd → List Nd
 | [] => []
 | k :: ks => canonN k :: canonNs ks
end
def levK (kind n : Int) : Nat := if kind = 9 then (if 0 < n then 6 else 0) else if kind = 10 then 2 else if kind = 11 then 1 else if kind = 12 then 3 else if kind = 13 then 4 else if kind = 14 ∨ kind = 15 then 5 else 6
def levN : Nd → Nat
 | .mk kind _ _ n _ _ _ _ => levK kind n
def barK (kind o : Int) : Nat := if kind = 9 then (if o = 0 then 1 else 4) else if kind = 10 then 3 else if kind = 11 then 2 else if kind = 14 ∨ kind = 15 then 5 else 4
def deepK (kind n : Int) : Nat := if kind = 13 ∨ kind = 14 ∨ kind = 15 ∨ (kind = 9 ∧ 0 < n) then 1 else 0
mutual
def nestN : Nd → Nat
 | .mk kind _ _ n _ _ occ ks => nestNs kind occ ks + deepK kind n
def nestNs (kind : Int) : List Int → List Nd → Nat
 | _, [] => 0
 | occ, k :: ks => max (nestN k + if levN k < barK kind (occ.headD 0) then 1 else 0) (nestNs kind occ.tail ks)
end
def decN (n : Nat) : List UInt8 := Lib.decDigits n
def pesc (c : UInt8) : List UInt8 := if c = 42 ∨ c = 63 ∨ c = 92 then [92, c] else [c]
def litL (l : List UInt8) : List UInt8 := l.flatMap pesc
def sideF (b : Bd) : List UInt8 := if b.open_ = true then [42] else if b.text = [] then quoteL [] else wordL b.text
def leafF (kind : Int) (text : List UInt8) (n : Int) (lo hi : Bd) : List UInt8 :=
 if kind = 1 then wordL text
 else if kind = 2 then (if 0 < n then quoteL text ++ 126 :: decN n.toNat else quoteL text)
 else if kind = 3 then patternL (litL text ++ [42])
 else if kind = 4 then patternL text
 else if kind = 5 then wordL text ++ 126 :: decN n.toNat
 else if kind = 6 then (if lo.in_ = true ∨ lo.open_ = true then 91 else 123) :: (sideF lo ++ [32, 84, 79, 32] ++ sideF hi ++ [if hi.in_ = true ∨ hi.open_ = true then 93 else 125])
 else [42]
def headF (field : List UInt8) : List UInt8 := if field = [] then [] else wordL field ++ [58]
def signF (o : Int) : List UInt8 := if o = 1 then [43] else if o = 2 then [45] else []
def sepF (kind : Int) : List UInt8 := if kind = 10 then [32, 65, 78, 68, 32] else if kind = 11 then [32, 79, 82, 32] else if kind = 12 then [32, 124, 32] else [32]
def aroundF (kind n : Int) (s : List UInt8) : List UInt8 :=
 if kind = 9 then (if 0 < n then 40 :: (s ++ 41 :: 64 :: decN n.toNat) else s)
 else if kind = 13 then [78, 79, 84, 32] ++ s
 else if kind = 14 then s ++ 94 :: decN n.toNat
 else if kind = 15 then s ++ 94 :: 61 :: decN n.toNat
 else s
def brF (b : Bool) (s : List UInt8) : List UInt8 := if b = true then 40 :: (s ++ [41]) else s
mutual
def formN : Nd → List UInt8
 | .mk kind field text n lo hi occ ks => if kind < 9 then (if kind = 8 then [42, 58, 42] else headF field ++ leafF kind text n lo hi) else aroundF kind n (formNs kind true occ ks)
def formNs (kind : Int) : Bool → List Int → List Nd → List UInt8
 | _, _, [] => []
 | first, occ, k :: ks => (if first = true then [] else sepF kind) ++ (if kind = 9 then signF (occ.headD 0) else []) ++ brF (decide (levN k < barK kind (occ.headD 0))) (formN k) ++ formNs kind false occ.tail ks
end
mutual
def sameN : Nd → Nd → Bool
 | .mk kind field text n lo hi occ ks, .mk kind2 field2 text2 n2 lo2 hi2 occ2 ks2 =>
  decide (kind = kind2) && decide (field = field2) && decide (text = text2) && decide (n = n2) && decide (lo.open_ = lo2.open_) && decide (lo.in_ = lo2.in_) && decide (lo.text = lo2.text) &&
   decide (hi.open_ = hi2.open_) && decide (hi.in_ = hi2.in_) && decide (hi.text = hi2.text) && decide (occ = occ2) && sameNs ks ks2
def sameNs : List Nd → List Nd → Bool
 | [], [] => true
 | [], _ :: _ => false
 | _ :: _, [] => false
 | x :: xs, y :: ys => sameN x y && sameNs xs ys
end
mutual
theorem same_iff : ∀ a b : Nd, sameN a b = true ↔ a = b
 | .mk kind field text n ⟨a1, a2, a3⟩ ⟨b1, b2, b3⟩ occ ks, .mk kind2 field2 text2 n2 ⟨c1, c2, c3⟩ ⟨d1, d2, d3⟩ occ2 ks2 => by
  have h := sames_iff ks ks2
  simp only [sameN, Bool.and_eq_true, decide_eq_true_eq, h, Nd.mk.injEq, Bd.mk.injEq]
  simp only [and_assoc]
theorem sames_iff : ∀ a b : List Nd, sameNs a b = true ↔ a = b
 | [], [] => by simp [sameNs]
 | [], _ :: _ => by simp [sameNs]
 | _ :: _, [] => by simp [sameNs]
 | x :: xs, y :: ys => by
  have h := same_iff x y
  have h2 := sames_iff xs ys
  simp only [sameNs, Bool.and_eq_true, h, h2, List.cons.injEq]
end
end Go.Proofs.YthcldpminmhgkaaDoor
end
