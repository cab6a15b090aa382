/- Merged for a claim by shake.py: Tb Tc Tf -/
import Derived.Test.YtcomdkejpaoneaaDoorKfA
import Derived.Deep.RegionLaw
import Derived.Test.YtcomdkejpaoneaaDoorKf1
import Derived.Test.YtcomdkejpaoneaaDoorKf2
import Derived.Test.YtcomdkejpaoneaaDoorKf33
section
namespace Go.Proofs.YtcomdkejpaoneaaDoor
open Go.RowKit
set_option maxRecDepth 100000
set_option maxHeartbeats 4000000
set_option linter.unusedSimpArgs false
set_option linter.unusedVariables false
def atomI (t : Lt) (field : Bool) : Int := match rAtom t field with | some a => (a : Int) | none => -1
theorem ratom_any (t : Lt) (field : Bool) (w : World) :
  Calls Tryd.prog 96 #[ltVal t, .bool field] w fun e w' => e = .returned (.int .i64 (atomI t field)) ∧ Below w.heap.size w w' := by
 obtain ⟨k, tx, n, a, b⟩ := t
 unfold ltVal
 simp only []
 have HX := LH (show Below w.heap.size w (w.alloc (.cells #[.int .i64 k, .string (str tx), .int .i64 n, .int .i64 a, .int .i64 b] 49)) from (Below.refl _ _).alloc (Nat.le_refl _) _)
 by_cases h1 : k = 1
 ·have e1 : (k == 1) = true := by simpa using h1
  have e2 : (k == 2) = false := by rw [h1]; decide
  have e3 : (k == 3) = false := by rw [h1]; decide
  have e8 : (k == 8) = false := by rw [h1]; decide
  have e10 : (k == 10) = false := by rw [h1]; decide
  have e12 : (k == 12) = false := by rw [h1]; decide
  cases field with
  | true =>
   have HR := LH (show atomI ⟨k, tx, n, a, b⟩ true = 5 from by unfold atomI rAtom; simp [h1])
   clear h1
   go_enter Tryd.func96, Tryd.ntmps96
   go_wp2
   go_ret
   exact ⟨by rw [HR.out]; rfl, HX.out⟩
  | false =>
   have HR := LH (show atomI ⟨k, tx, n, a, b⟩ false = 4 from by unfold atomI rAtom; simp [h1])
   clear h1
   go_enter Tryd.func96, Tryd.ntmps96
   go_wp2
   go_ret
   exact ⟨by rw [HR.out]; rfl, HX.out⟩
 by_cases h2 : k = 2
 ·have e2 : (k == 2) = true := by simpa using h2
  have e1 : (k == 1) = false := by rw [h2]; decide
  have e3 : (k == 3) = false := by rw [h2]; decide
  have e8 : (k == 8) = false := by rw [h2]; decide
  have e10 : (k == 10) = false := by rw [h2]; decide
  have e12 : (k == 12) = false := by rw [h2]; decide
  have HST := LH (rstar_any ⟨k, tx, n, a, b⟩ (w.alloc (.cells #[.int .i64 k, .string (str tx), .int .i64 n, .int .i64 a, .int .i64 b] 49)))
  cases hst : starT ⟨k, tx, n, a, b⟩ with
  | true =>
   cases field with
   | true =>
    have HR := LH (show atomI ⟨k, tx, n, a, b⟩ true = 9 from by unfold atomI rAtom; rw [if_neg h1, if_pos h2, hst]; rfl)
    have HV := LH hst
    clear hst h1 h2
    go_enter Tryd.func96, Tryd.ntmps96
    go_wp2_with fail
    refine HST.out.mono ?_
    rintro e w2 ⟨rfl, hb2⟩
    rw [HV.out]
    have HB2 := LH (HX.out.trans (hb2.mono HX.out.size))
    clear hb2
    go_wp2
    go_ret
    exact ⟨by rw [HR.out]; rfl, HB2.out⟩
   | false =>
    have HR := LH (show atomI ⟨k, tx, n, a, b⟩ false = 6 from by unfold atomI rAtom; rw [if_neg h1, if_pos h2, hst]; rfl)
    have HV := LH hst
    clear hst h1 h2
    go_enter Tryd.func96, Tryd.ntmps96
    go_wp2_with fail
    refine HST.out.mono ?_
    rintro e w2 ⟨rfl, hb2⟩
    rw [HV.out]
    have HB2 := LH (HX.out.trans (hb2.mono HX.out.size))
    clear hb2
    go_wp2
    go_ret
    exact ⟨by rw [HR.out]; rfl, HB2.out⟩
  | false =>
   cases field with
   | true =>
    have HR := LH (show atomI ⟨k, tx, n, a, b⟩ true = 9 from by unfold atomI rAtom; rw [if_neg h1, if_pos h2, hst]; rfl)
    have HV := LH hst
    clear hst h1 h2
    go_enter Tryd.func96, Tryd.ntmps96
    go_wp2_with fail
    refine HST.out.mono ?_
    rintro e w2 ⟨rfl, hb2⟩
    rw [HV.out]
    have HB2 := LH (HX.out.trans (hb2.mono HX.out.size))
    clear hb2
    go_wp2
    go_ret
    exact ⟨by rw [HR.out]; rfl, HB2.out⟩
   | false =>
    have HR := LH (show atomI ⟨k, tx, n, a, b⟩ false = 9 from by unfold atomI rAtom; rw [if_neg h1, if_pos h2, hst]; rfl)
    have HV := LH hst
    clear hst h1 h2
    go_enter Tryd.func96, Tryd.ntmps96
    go_wp2_with fail
    refine HST.out.mono ?_
    rintro e w2 ⟨rfl, hb2⟩
    rw [HV.out]
    have HB2 := LH (HX.out.trans (hb2.mono HX.out.size))
    clear hb2
    go_wp2
    go_ret
    exact ⟨by rw [HR.out]; rfl, HB2.out⟩
 by_cases h3 : k = 3
 ·have e3 : (k == 3) = true := by simpa using h3
  have e1 : (k == 1) = false := by rw [h3]; decide
  have e2 : (k == 2) = false := by rw [h3]; decide
  have e8 : (k == 8) = false := by rw [h3]; decide
  have e10 : (k == 10) = false := by rw [h3]; decide
  have e12 : (k == 12) = false := by rw [h3]; decide
  have HR := LH (show atomI ⟨k, tx, n, a, b⟩ field = 7 from by unfold atomI rAtom; simp [h3])
  clear h1 h2 h3
  go_enter Tryd.func96, Tryd.ntmps96
  go_wp2
  go_ret
  exact ⟨by rw [HR.out]; rfl, HX.out⟩
 by_cases h8 : k = 8
 ·have e8 : (k == 8) = true := by simpa using h8
  have e1 : (k == 1) = false := by rw [h8]; decide
  have e2 : (k == 2) = false := by rw [h8]; decide
  have e3 : (k == 3) = false := by rw [h8]; decide
  have e10 : (k == 10) = false := by rw [h8]; decide
  have e12 : (k == 12) = false := by rw [h8]; decide
  have HR := LH (show atomI ⟨k, tx, n, a, b⟩ field = 0 from by unfold atomI rAtom; simp [h8])
  clear h1 h2 h3 h8
  go_enter Tryd.func96, Tryd.ntmps96
  go_wp2
  go_ret
  exact ⟨by rw [HR.out]; rfl, HX.out⟩
 by_cases h10 : k = 10
 ·have e10 : (k == 10) = true := by simpa using h10
  have e1 : (k == 1) = false := by rw [h10]; decide
  have e2 : (k == 2) = false := by rw [h10]; decide
  have e3 : (k == 3) = false := by rw [h10]; decide
  have e8 : (k == 8) = false := by rw [h10]; decide
  have e12 : (k == 12) = false := by rw [h10]; decide
  have HR := LH (show atomI ⟨k, tx, n, a, b⟩ field = 10 from by unfold atomI rAtom; simp [h10])
  clear h1 h2 h3 h8 h10
  go_enter Tryd.func96, Tryd.ntmps96
  go_wp2
  go_ret
  exact ⟨by rw [HR.out]; rfl, HX.out⟩
 by_cases h12 : k = 12
 ·have e12 : (k == 12) = true := by simpa using h12
  have e1 : (k == 1) = false := by rw [h12]; decide
  have e2 : (k == 2) = false := by rw [h12]; decide
  have e3 : (k == 3) = false := by rw [h12]; decide
  have e8 : (k == 8) = false := by rw [h12]; decide
  have e10 : (k == 10) = false := by rw [h12]; decide
  have HR := LH (show atomI ⟨k, tx, n, a, b⟩ field = 10 from by unfold atomI rAtom; simp [h12])
  clear h1 h2 h3 h8 h10 h12
  go_enter Tryd.func96, Tryd.ntmps96
  go_wp2
  go_ret
  exact ⟨by rw [HR.out]; rfl, HX.out⟩
 have e1 : (k == 1) = false := by simpa using h1
 have e2 : (k == 2) = false := by simpa using h2
 have e3 : (k == 3) = false := by simpa using h3
 have e8 : (k == 8) = false := by simpa using h8
 have e10 : (k == 10) = false := by simpa using h10
 have e12 : (k == 12) = false := by simpa using h12
 have HR := LH (show atomI ⟨k, tx, n, a, b⟩ field = -1 from by unfold atomI rAtom; simp [h1, h2, h3, h8, h10, h12])
 clear h1 h2 h3 h8 h10 h12
 go_enter Tryd.func96, Tryd.ntmps96
 go_wp2
 go_ret
 exact ⟨by rw [HR.out]; rfl, HX.out⟩
end Go.Proofs.YtcomdkejpaoneaaDoor
end
section
namespace Go.Proofs.YtcomdkejpaoneaaDoor
open Go.RowKit
set_option maxRecDepth 100000
set_option maxHeartbeats 4000000
set_option linter.unusedSimpArgs false
set_option linter.unusedVariables false
theorem RwRet.good {r : Option Rw} {r' : Rw} {w w' : World} {e : Ending} {x v0 : Value} {ro : List Bool} (hb : Below w.heap.size w w') (hr : r = some r') (he : e = .returned (.tuple #[x, .bool true])) (hx : RwO w' w.heap.size v0 ro x r') (hX : RwX x := by exact ⟨_, _, _, _, _, rfl⟩) : RwRet r v0 ro w e w' := by
 subst hr
 exact ⟨hb, x, he, hX, fun r2 h => by cases h; exact hx⟩
theorem RwRet.bad {r : Option Rw} {w w' : World} {e : Ending} {x v0 : Value} {ro : List Bool} (hb : Below w.heap.size w w') (hr : r = none) (he : e = .returned (.tuple #[x, .bool false])) (hX : RwX x := by exact ⟨_, _, _, _, _, rfl⟩) : RwRet r v0 ro w e w' := by
 subst hr
 exact ⟨hb, x, he, hX, fun r2 h => by cases h⟩
def orI : Option Nat → Int
 | some q => (q : Int)
 | none => -1
theorem RwV.of {w w' : World} {v : Value} {ro : List Bool} {B C : Nat} (hv : RdL rbS w B v ro) (hB : B ≤ w.heap.size) (hb : Below w.heap.size w w') (a : Nat) (s : Bool) : RwO w' C v ro (.agg #[.int .i64 (a : Int), .bool s, v]) ⟨a, s, ro⟩ := ⟨v, rfl, .inl ⟨rfl, rfl⟩⟩
theorem below3 (w : World) (o1 o2 o3 : Obj) : Below w.heap.size w (((w.alloc o1).alloc o2).alloc o3) :=
 (((Below.refl _ _).alloc (Nat.le_refl _) _).alloc (by rw [World.size_alloc]; omega) _).alloc (by rw [World.size_alloc, World.size_alloc]; omega) _
theorem rbegun_ne (x : Value) (r : Rw) (t : Lt) (field : Bool) (w : World) (B : Nat) (v : Value) (hx : RwV w B v x r) (h8 : t.kind ≠ 8) :
  Calls Tryd.prog 77 #[x, ltVal t, .bool field] w (RwRet (rBegun r t field) v r.open_ w) := by
 obtain ⟨k, tx, n, a, b⟩ := t
 obtain ⟨hBw, rfl, hv⟩ := hx
 obtain ⟨A, cap, rfl, hc1, hc2⟩ := hv.open_
 obtain ⟨ra, rs, ro⟩ := r
 simp only [] at hv hc1 h8
 have HV := LH hv; have HBW := LH hBw; clear hBw
 clear hv
 unfold ltVal
 simp only []
 by_cases h6 : k = 6 ∧ field = false
 ·obtain ⟨h6, rfl⟩ := h6
  have e6 : (k == 6) = true := by simpa using h6
  have HR := LH (show rBegun ⟨ra, rs, ro⟩ ⟨k, tx, n, a, b⟩ false = some ⟨1, rs, ro⟩ from by unfold rBegun; rw [if_pos ⟨h6, rfl⟩]; rfl)
  clear h6
  go_enter Tryd.func77, Tryd.ntmps77
  go_wp2
  refine bodyPost_ret (v := .tuple #[.agg #[.int .i64 1, .bool rs, .slice A ro.length cap], .bool true]) ?_ rfl ?_
  ·simp [results, Tryd.results77, go_sem, World.cell?_alloc_new]
  ·exact RwRet.good (below3 _ _ _ _) HR.out rfl (RwV.of HV.out HBW.out (below3 _ _ _ _) 1 rs)
 have hn6 : ¬ (k = 6 ∧ field = false) := h6
 have HR0 := LH (show rBegun ⟨ra, rs, ro⟩ ⟨k, tx, n, a, b⟩ field = (match rAtom ⟨k, tx, n, a, b⟩ field with
  | none => none
  | some q => if k = 8 then some ⟨q, false, ro ++ [rs]⟩ else some ⟨q, rs, ro⟩) from by unfold rBegun; rw [if_neg hn6]; rfl)
 have hee : (k == 6) = false ∨ ((k == 6) = true ∧ field = true) := by
  by_cases hk : k = 6
  ·right
   refine ⟨by simpa using hk, ?_⟩
   cases field with
   | true => rfl
   | false => exact absurd ⟨hk, rfl⟩ hn6
  ·left; simpa using hk
 clear hn6 h6
 have HAI := LH (show atomI ⟨k, tx, n, a, b⟩ field = orI (rAtom ⟨k, tx, n, a, b⟩ field) from rfl)
 generalize rAtom ⟨k, tx, n, a, b⟩ field = ra2 at HR0 HAI
 have HBR := LH ((((Blk.new w 99 #[.int .i64 (ra : Int), .bool rs, .slice A ro.length cap]).alloc (.cells #[.int .i64 k, .string (str tx), .int .i64 n, .int .i64 a, .int .i64 b] 49)).alloc (.cells #[.int .i64 0, .bool false, .slice none 0 0] 99)))
 have HBT := LH ((Blk.new (w.alloc (.cells #[.int .i64 (ra : Int), .bool rs, .slice A ro.length cap] 99)) 49 #[.int .i64 k, .string (str tx), .int .i64 n, .int .i64 a, .int .i64 b]).alloc (.cells #[.int .i64 0, .bool false, .slice none 0 0] 99))
 have HBZ := LH (Blk.new ((w.alloc (.cells #[.int .i64 (ra : Int), .bool rs, .slice A ro.length cap] 99)).alloc (.cells #[.int .i64 k, .string (str tx), .int .i64 n, .int .i64 a, .int .i64 b] 49)) 99 #[.int .i64 0, .bool false, .slice none 0 0])
 have HB3 := LH (below3 w (.cells #[.int .i64 (ra : Int), .bool rs, .slice A ro.length cap] 99) (.cells #[.int .i64 k, .string (str tx), .int .i64 n, .int .i64 a, .int .i64 b] 49) (.cells #[.int .i64 0, .bool false, .slice none 0 0] 99))
 simp only [World.size_alloc] at HBT HBZ
 go_enter Tryd.func77, Tryd.ntmps77
 rcases hee with e6 | ⟨e6, rfl⟩
 all_goals
  go_wp2_with fail
  generalize ((w.alloc (.cells #[.int .i64 (ra : Int), .bool rs, .slice A ro.length cap] 99)).alloc (.cells #[.int .i64 k, .string (str tx), .int .i64 n, .int .i64 a, .int .i64 b] 49)).alloc (.cells #[.int .i64 0, .bool false, .slice none 0 0] 99) = w3 at *
  refine (ratom_any ⟨k, tx, n, a, b⟩ _ w3).mono ?_
  rintro e w4 ⟨rfl, hb4⟩
  have hsz3 : w.heap.size ≤ w3.heap.size := HB3.out.size
  have HB4 := LH (HB3.out.trans (hb4.mono hsz3))
  have HR4 := LH (HBR.out.belowW hb4); have HT4 := LH (HBT.out.belowW hb4); have HZ4 := LH (HBZ.out.belowW hb4)
  have r0 := HR4.out.cell 0; have r1 := HR4.out.cell 1; have r2 := HR4.out.cell 2
  have fr0 := HR4.out.frozen 0; have fr1 := HR4.out.frozen 1; have fr2 := HR4.out.frozen 2; have lr := HR4.out.lt
  have t0 := HT4.out.cell 0
  have fz0 := HZ4.out.frozen 0; have fz1 := HZ4.out.frozen 1; have fz2 := HZ4.out.frozen 2; have lz := HZ4.out.lt
  have z0 := HZ4.out.cell 0; have z1 := HZ4.out.cell 1; have z2 := HZ4.out.cell 2
  simp only [List.getElem?_toArray, List.getElem?_cons_zero, List.getElem?_cons_succ] at r0 r1 r2 t0 z0 z1 z2
  clear hb4
  have HZS := LH (show w.heap.size ≠ w.heap.size + 1 + 1 from by omega)
  rw [HAI.out]
  cases ra2 with
  | none =>
   simp only [orI]
   go_wp2
   refine bodyPost_ret (v := .tuple #[.agg #[.int .i64 (ra : Int), .bool rs, .slice A ro.length cap], .bool false]) ?_ rfl ?_
   ·simp [results, Tryd.results77, go_sem, fz0, fz1, fz2, lz, z0, z1, z2]
   ·refine RwRet.bad ?_ HR0.out rfl
    exact ((HB4.out.setCell (by show w.heap.size ≤ w.heap.size + 1 + 1; omega) _).setCell (by show w.heap.size ≤ w.heap.size + 1 + 1; omega) _).setCell (by show w.heap.size ≤ w.heap.size + 1 + 1; omega) _
  | some q =>
   have e8 : (k == 8) = false := by simpa using h8
   have HR := LH (HR0.out.trans (by simp only []; rw [if_neg h8]))
   clear h8
   simp only [orI]
   go_wp2
   refine bodyPost_ret (v := .tuple #[.agg #[.int .i64 (q : Int), .bool rs, .slice A ro.length cap], .bool true]) ?_ rfl ?_
   ·simp [results, Tryd.results77, go_sem, fz0, fz1, fz2, lz, z0, z1, z2]
   ·have hbz := (((HB4.out.setCell (p := ⟨w.heap.size, 0, none⟩) (Nat.le_refl _) (.int .i64 (q : Int))).setCell (p := ⟨w.heap.size + 1 + 1, 0, none⟩) (by show w.heap.size ≤ w.heap.size + 1 + 1; omega) (.int .i64 (q : Int))).setCell (p := ⟨w.heap.size + 1 + 1, 1, none⟩) (by show w.heap.size ≤ w.heap.size + 1 + 1; omega) (.bool rs)).setCell (p := ⟨w.heap.size + 1 + 1, 2, none⟩) (by show w.heap.size ≤ w.heap.size + 1 + 1; omega) (.slice A ro.length cap)
    exact RwRet.good hbz HR.out rfl (RwV.of HV.out HBW.out hbz q rs)
end Go.Proofs.YtcomdkejpaoneaaDoor
end
section
namespace Go.Proofs.YtcomdkejpaoneaaDoor
open Go.RowKit
set_option maxRecDepth 100000
set_option maxHeartbeats 1000000
set_option linter.unusedSimpArgs false
set_option linter.unusedVariables false
theorem OwnL.stepAppendAny {α : Type} {S : Shape α} (hS : S.Ok) {w : World} {B C : Nat} {v x : Value} {l m : List α} (h : OwnL S w B v l) (hx : RdL S w C x m) {ops : Array Oper} {o : Oper} {a : Act} {K : Act → World → Prop} {Q : Exit → Act → World → Prop} {E : Prop} (hgd : o.guard = none) (s y : Operand)
  (ho : o.op = .call { callee := .builtin .append, args := #[s, y], argTypes := #[S.tS, S.tS] }) (hs : a.eval s = v) (hy : a.eval y = x) (hB : B ≤ w.heap.size) (hl : l.length + m.length ≤ 100000000000)
  (k : ∀ v' w', OwnL S w' B v' (l ++ m) → Below B w w' → KeptBut w w' v → (v'.ownBlock = v.ownBlock ∨ v'.ownBlock = some w.heap.size) → K (a.put o.dst v') w') :
  if Region.wanted o (yielded ops a.tmps) = true then Oper.wp Tryd.prog o a w K Q else E := by
 have hw : Region.wanted o (yielded ops a.tmps) = true := by simp [Region.wanted, hgd]
 rw [if_pos hw]
 obtain ⟨i0, hi, hz0, hz1, hz2⟩ := info_parts hS.info
 have hlt := World.ownsRow.lt h
 obtain ⟨A, cap, rfl, h1, h2, h3, h4⟩ := hx
 cases A with
 | none =>
  have e : m = [] := by
   rcases Nat.eq_zero_or_pos m.length with h0 | h0
   ·exact List.eq_nil_of_length_eq_zero h0
   ·obtain ⟨_, e, _⟩ := h3 h0; cases e
  subst e
  rw [h4 rfl] at hy
  have hrun := run_append_owned_none (P := Tryd.prog) (w := w) B S.tS o.type S.tE i0 S.size hS.under hi v l.length (S.cells l) h
  unfold Oper.wp
  simp [execOp, ho, resolve, invoke, builtin, hs, hy, hrun, Result.andThen]
  exact k v w (by rw [List.append_nil]; exact h) (Below.refl _ _) (fun _ _ _ => rfl) (.inl rfl)
 | some ad =>
  have hc : ∀ j u, (S.cells m)[j]? = some u → w.cell? (ad.add j) = some u := by
   intro j u hu
   rcases Nat.eq_zero_or_pos m.length with h0 | h0
   ·rw [List.eq_nil_of_length_eq_zero h0] at hu; simp [Shape.cells] at hu
   ·obtain ⟨a', e, _, hc⟩ := h3 h0
    cases e
    exact hc j u hu
  obtain ⟨v', w', hr, g2, g3, _, g5⟩ := run_append_own_at (P := Tryd.prog) w B S.tS o.type S.tE i0 S.zero S.size S.bytes hS.under hi hz0 hz1 hz2 hS.zs hS.pos v l.length (S.cells l) h ad m.length cap (S.cells m) (Shape.cells_length hS m) hc (by
   intro u hu
   obtain ⟨x, _, hx⟩ := List.mem_flatMap.1 hu
   exact hS.one x u hx) (by unfold maxLen; omega) (by
   have := hS.small
   have h1 : (l.length + m.length) * S.bytes ≤ 100000000000 * 1000 := Nat.mul_le_mul hl this
   omega) hB
  unfold Oper.wp execOp
  simp only [ho, resolve, invoke, builtin, Sem.run_bind, Sem.run_pure, Result.andThen_ok, List.map_toArray, List.map_cons, List.map_nil, hs, hy, hr]
  refine k v' w' ?_ ?_ ?_ g5
  ·unfold OwnL
   rw [Shape.cells_append, List.length_append]
   exact g2
  ·exact (Below.refl _ _).grown g3 hB (fun g hg => (hlt g hg).1)
  ·intro b hb hv
   exact g3.block b hb (fun e => hv e.symm)
end Go.Proofs.YtcomdkejpaoneaaDoor
end
