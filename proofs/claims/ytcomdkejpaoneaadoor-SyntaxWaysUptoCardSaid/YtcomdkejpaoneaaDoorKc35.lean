/- Merged for a claim by shake.py: Tb Tc Tf Tg -/
import Derived.Deep.RegionLaw
import Derived.Test.YtcomdkejpaoneaaDoorKc1
import Derived.Test.YtcomdkejpaoneaaDoorKc2
import Derived.Test.YtcomdkejpaoneaaDoorKc34
section
namespace Go.Proofs.YtcomdkejpaoneaaDoor
open Go.RowKit
set_option maxRecDepth 100000
set_option maxHeartbeats 4000000
set_option linter.unusedSimpArgs false
set_option linter.unusedVariables false
def atomI (t : Lt) (field : Bool) : Int := match rAtom t field with | some a => (a : Int) | none => -1
theorem ratom_any (t : Lt) (field : Bool) (w : World) :
    Calls Tryd.prog 96 #[ltVal t, .bool field] w fun e w' => e = .returned (.int .i64 (atomI t field)) ∧ Below w.heap.size w w' := by
  obtain ⟨k, tx, n, a, b⟩ := t
  unfold ltVal
  simp only []
  have HX := Lib.hid (show Below w.heap.size w (w.alloc (.cells #[.int .i64 k, .string (str tx), .int .i64 n, .int .i64 a, .int .i64 b] 49)) from (Below.refl _ _).alloc (Nat.le_refl _) _)
  by_cases h1 : k = 1
  · have e1 : (k == 1) = true := by simpa using h1
    have e2 : (k == 2) = false := by rw [h1]; decide
    have e3 : (k == 3) = false := by rw [h1]; decide
    have e8 : (k == 8) = false := by rw [h1]; decide
    have e10 : (k == 10) = false := by rw [h1]; decide
    have e12 : (k == 12) = false := by rw [h1]; decide
    cases field with
    | true =>
      have HR := Lib.hid (show atomI ⟨k, tx, n, a, b⟩ true = 5 from by unfold atomI rAtom; simp [h1])
      clear h1
      go_enter Tryd.func96, Tryd.ntmps96
      go_wp2
      go_ret
      exact ⟨by rw [HR.out]; rfl, HX.out⟩
    | false =>
      have HR := Lib.hid (show atomI ⟨k, tx, n, a, b⟩ false = 4 from by unfold atomI rAtom; simp [h1])
      clear h1
      go_enter Tryd.func96, Tryd.ntmps96
      go_wp2
      go_ret
      exact ⟨by rw [HR.out]; rfl, HX.out⟩
  by_cases h2 : k = 2
  · have e2 : (k == 2) = true := by simpa using h2
    have e1 : (k == 1) = false := by rw [h2]; decide
    have e3 : (k == 3) = false := by rw [h2]; decide
    have e8 : (k == 8) = false := by rw [h2]; decide
    have e10 : (k == 10) = false := by rw [h2]; decide
    have e12 : (k == 12) = false := by rw [h2]; decide
    have HST := Lib.hid (rstar_any ⟨k, tx, n, a, b⟩ (w.alloc (.cells #[.int .i64 k, .string (str tx), .int .i64 n, .int .i64 a, .int .i64 b] 49)))
    cases hst : starT ⟨k, tx, n, a, b⟩ with
    | true =>
      cases field with
      | true =>
        have HR := Lib.hid (show atomI ⟨k, tx, n, a, b⟩ true = 9 from by unfold atomI rAtom; rw [if_neg h1, if_pos h2, hst]; rfl)
        have HV := Lib.hid hst
        clear hst h1 h2
        go_enter Tryd.func96, Tryd.ntmps96
        go_wp2_with fail
        refine HST.out.mono ?_
        rintro e w2 ⟨rfl, hb2⟩
        rw [HV.out]
        have HB2 := Lib.hid (HX.out.trans (hb2.mono HX.out.size))
        clear hb2
        go_wp2
        go_ret
        exact ⟨by rw [HR.out]; rfl, HB2.out⟩
      | false =>
        have HR := Lib.hid (show atomI ⟨k, tx, n, a, b⟩ false = 6 from by unfold atomI rAtom; rw [if_neg h1, if_pos h2, hst]; rfl)
        have HV := Lib.hid hst
        clear hst h1 h2
        go_enter Tryd.func96, Tryd.ntmps96
        go_wp2_with fail
        refine HST.out.mono ?_
        rintro e w2 ⟨rfl, hb2⟩
        rw [HV.out]
        have HB2 := Lib.hid (HX.out.trans (hb2.mono HX.out.size))
        clear hb2
        go_wp2
        go_ret
        exact ⟨by rw [HR.out]; rfl, HB2.out⟩
    | false =>
      cases field with
      | true =>
        have HR := Lib.hid (show atomI ⟨k, tx, n, a, b⟩ true = 9 from by unfold atomI rAtom; rw [if_neg h1, if_pos h2, hst]; rfl)
        have HV := Lib.hid hst
        clear hst h1 h2
        go_enter Tryd.func96, Tryd.ntmps96
        go_wp2_with fail
        refine HST.out.mono ?_
        rintro e w2 ⟨rfl, hb2⟩
        rw [HV.out]
        have HB2 := Lib.hid (HX.out.trans (hb2.mono HX.out.size))
        clear hb2
        go_wp2
        go_ret
        exact ⟨by rw [HR.out]; rfl, HB2.out⟩
      | false =>
        have HR := Lib.hid (show atomI ⟨k, tx, n, a, b⟩ false = 9 from by unfold atomI rAtom; rw [if_neg h1, if_pos h2, hst]; rfl)
        have HV := Lib.hid hst
        clear hst h1 h2
        go_enter Tryd.func96, Tryd.ntmps96
        go_wp2_with fail
        refine HST.out.mono ?_
        rintro e w2 ⟨rfl, hb2⟩
        rw [HV.out]
        have HB2 := Lib.hid (HX.out.trans (hb2.mono HX.out.size))
        clear hb2
        go_wp2
        go_ret
        exact ⟨by rw [HR.out]; rfl, HB2.out⟩
  by_cases h3 : k = 3
  · have e3 : (k == 3) = true := by simpa using h3
    have e1 : (k == 1) = false := by rw [h3]; decide
    have e2 : (k == 2) = false := by rw [h3]; decide
    have e8 : (k == 8) = false := by rw [h3]; decide
    have e10 : (k == 10) = false := by rw [h3]; decide
    have e12 : (k == 12) = false := by rw [h3]; decide
    have HR := Lib.hid (show atomI ⟨k, tx, n, a, b⟩ field = 7 from by unfold atomI rAtom; simp [h3])
    clear h1 h2 h3
    go_enter Tryd.func96, Tryd.ntmps96
    go_wp2
    go_ret
    exact ⟨by rw [HR.out]; rfl, HX.out⟩
  by_cases h8 : k = 8
  · have e8 : (k == 8) = true := by simpa using h8
    have e1 : (k == 1) = false := by rw [h8]; decide
    have e2 : (k == 2) = false := by rw [h8]; decide
    have e3 : (k == 3) = false := by rw [h8]; decide
    have e10 : (k == 10) = false := by rw [h8]; decide
    have e12 : (k == 12) = false := by rw [h8]; decide
    have HR := Lib.hid (show atomI ⟨k, tx, n, a, b⟩ field = 0 from by unfold atomI rAtom; simp [h8])
    clear h1 h2 h3 h8
    go_enter Tryd.func96, Tryd.ntmps96
    go_wp2
    go_ret
    exact ⟨by rw [HR.out]; rfl, HX.out⟩
  by_cases h10 : k = 10
  · have e10 : (k == 10) = true := by simpa using h10
    have e1 : (k == 1) = false := by rw [h10]; decide
    have e2 : (k == 2) = false := by rw [h10]; decide
    have e3 : (k == 3) = false := by rw [h10]; decide
    have e8 : (k == 8) = false := by rw [h10]; decide
    have e12 : (k == 12) = false := by rw [h10]; decide
    have HR := Lib.hid (show atomI ⟨k, tx, n, a, b⟩ field = 10 from by unfold atomI rAtom; simp [h10])
    clear h1 h2 h3 h8 h10
    go_enter Tryd.func96, Tryd.ntmps96
    go_wp2
    go_ret
    exact ⟨by rw [HR.out]; rfl, HX.out⟩
  by_cases h12 : k = 12
  · have e12 : (k == 12) = true := by simpa using h12
    have e1 : (k == 1) = false := by rw [h12]; decide
    have e2 : (k == 2) = false := by rw [h12]; decide
    have e3 : (k == 3) = false := by rw [h12]; decide
    have e8 : (k == 8) = false := by rw [h12]; decide
    have e10 : (k == 10) = false := by rw [h12]; decide
    have HR := Lib.hid (show atomI ⟨k, tx, n, a, b⟩ field = 10 from by unfold atomI rAtom; simp [h12])
    clear h1 h2 h3 h8 h10 h12
    go_enter Tryd.func96, Tryd.ntmps96
    go_wp2
    go_ret
    exact ⟨by rw [HR.out]; rfl, HX.out⟩
  have e1 : (k == 1) = false := by simpa using h1
  have e2 : (k == 2) = false := by simpa using h2
  have e3 : (k == 3) = false := by simpa using h3
  have e8 : (k == 8) = false := by simpa using h8
  have e10 : (k == 10) = false := by simpa using h10
  have e12 : (k == 12) = false := by simpa using h12
  have HR := Lib.hid (show atomI ⟨k, tx, n, a, b⟩ field = -1 from by unfold atomI rAtom; simp [h1, h2, h3, h8, h10, h12])
  clear h1 h2 h3 h8 h10 h12
  go_enter Tryd.func96, Tryd.ntmps96
  go_wp2
  go_ret
  exact ⟨by rw [HR.out]; rfl, HX.out⟩
end Go.Proofs.YtcomdkejpaoneaaDoor
end
section
namespace Go.Proofs.YtcomdkejpaoneaaDoor
open Go.RowKit
set_option maxRecDepth 100000
set_option maxHeartbeats 4000000
set_option linter.unusedSimpArgs false
set_option linter.unusedVariables false
theorem RwRet.good {r : Option Rw} {r' : Rw} {w w' : World} {e : Ending} {x v0 : Value} {ro : List Bool} (hb : Below w.heap.size w w') (hr : r = some r') (he : e = .returned (.tuple #[x, .bool true])) (hx : RwO w' w.heap.size v0 ro x r') (hX : RwX x := by exact ⟨_, _, _, _, _, rfl⟩) : RwRet r v0 ro w e w' := by
  subst hr
  exact ⟨hb, x, he, hX, fun r2 h => by cases h; exact hx⟩
theorem RwRet.bad {r : Option Rw} {w w' : World} {e : Ending} {x v0 : Value} {ro : List Bool} (hb : Below w.heap.size w w') (hr : r = none) (he : e = .returned (.tuple #[x, .bool false])) (hX : RwX x := by exact ⟨_, _, _, _, _, rfl⟩) : RwRet r v0 ro w e w' := by
  subst hr
  exact ⟨hb, x, he, hX, fun r2 h => by cases h⟩
def orI : Option Nat → Int
  | some q => (q : Int)
  | none => -1
theorem RwV.of {w w' : World} {v : Value} {ro : List Bool} {B C : Nat} (hv : RdL rbS w B v ro) (hB : B ≤ w.heap.size) (hb : Below w.heap.size w w') (a : Nat) (s : Bool) : RwO w' C v ro (.agg #[.int .i64 (a : Int), .bool s, v]) ⟨a, s, ro⟩ := ⟨v, rfl, .inl ⟨rfl, rfl⟩⟩
theorem below3 (w : World) (o1 o2 o3 : Obj) : Below w.heap.size w (((w.alloc o1).alloc o2).alloc o3) :=
  (((Below.refl _ _).alloc (Nat.le_refl _) _).alloc (by rw [World.size_alloc]; omega) _).alloc (by rw [World.size_alloc, World.size_alloc]; omega) _
theorem rbegun_ne (x : Value) (r : Rw) (t : Lt) (field : Bool) (w : World) (B : Nat) (v : Value) (hx : RwV w B v x r) (h8 : t.kind ≠ 8) :
    Calls Tryd.prog 77 #[x, ltVal t, .bool field] w (RwRet (rBegun r t field) v r.open_ w) := by
  obtain ⟨k, tx, n, a, b⟩ := t
  obtain ⟨hBw, rfl, hv⟩ := hx
  obtain ⟨A, cap, rfl, hc1, hc2⟩ := hv.open_
  obtain ⟨ra, rs, ro⟩ := r
  simp only [] at hv hc1 h8
  have HV := Lib.hid hv; have HBW := Lib.hid hBw; clear hBw
  clear hv
  unfold ltVal
  simp only []
  by_cases h6 : k = 6 ∧ field = false
  · obtain ⟨h6, rfl⟩ := h6
    have e6 : (k == 6) = true := by simpa using h6
    have HR := Lib.hid (show rBegun ⟨ra, rs, ro⟩ ⟨k, tx, n, a, b⟩ false = some ⟨1, rs, ro⟩ from by unfold rBegun; rw [if_pos ⟨h6, rfl⟩]; rfl)
    clear h6
    go_enter Tryd.func77, Tryd.ntmps77
    go_wp2
    refine bodyPost_ret (v := .tuple #[.agg #[.int .i64 1, .bool rs, .slice A ro.length cap], .bool true]) ?_ rfl ?_
    · simp [results, Tryd.results77, go_sem, World.cell?_alloc_new]
    · exact RwRet.good (below3 _ _ _ _) HR.out rfl (RwV.of HV.out HBW.out (below3 _ _ _ _) 1 rs)
  have hn6 : ¬ (k = 6 ∧ field = false) := h6
  have HR0 := Lib.hid (show rBegun ⟨ra, rs, ro⟩ ⟨k, tx, n, a, b⟩ field = (match rAtom ⟨k, tx, n, a, b⟩ field with
    | none => none
    | some q => if k = 8 then some ⟨q, false, ro ++ [rs]⟩ else some ⟨q, rs, ro⟩) from by unfold rBegun; rw [if_neg hn6]; rfl)
  have hee : (k == 6) = false ∨ ((k == 6) = true ∧ field = true) := by
    by_cases hk : k = 6
    · right
      refine ⟨by simpa using hk, ?_⟩
      cases field with
      | true => rfl
      | false => exact absurd ⟨hk, rfl⟩ hn6
    · left; simpa using hk
  clear hn6 h6
  have HAI := Lib.hid (show atomI ⟨k, tx, n, a, b⟩ field = orI (rAtom ⟨k, tx, n, a, b⟩ field) from rfl)
  generalize rAtom ⟨k, tx, n, a, b⟩ field = ra2 at HR0 HAI
  have HBR := Lib.hid ((((Blk.new w 99 #[.int .i64 (ra : Int), .bool rs, .slice A ro.length cap]).alloc (.cells #[.int .i64 k, .string (str tx), .int .i64 n, .int .i64 a, .int .i64 b] 49)).alloc (.cells #[.int .i64 0, .bool false, .slice none 0 0] 99)))
  have HBT := Lib.hid ((Blk.new (w.alloc (.cells #[.int .i64 (ra : Int), .bool rs, .slice A ro.length cap] 99)) 49 #[.int .i64 k, .string (str tx), .int .i64 n, .int .i64 a, .int .i64 b]).alloc (.cells #[.int .i64 0, .bool false, .slice none 0 0] 99))
  have HBZ := Lib.hid (Blk.new ((w.alloc (.cells #[.int .i64 (ra : Int), .bool rs, .slice A ro.length cap] 99)).alloc (.cells #[.int .i64 k, .string (str tx), .int .i64 n, .int .i64 a, .int .i64 b] 49)) 99 #[.int .i64 0, .bool false, .slice none 0 0])
  have HB3 := Lib.hid (below3 w (.cells #[.int .i64 (ra : Int), .bool rs, .slice A ro.length cap] 99) (.cells #[.int .i64 k, .string (str tx), .int .i64 n, .int .i64 a, .int .i64 b] 49) (.cells #[.int .i64 0, .bool false, .slice none 0 0] 99))
  simp only [World.size_alloc] at HBT HBZ
  go_enter Tryd.func77, Tryd.ntmps77
  rcases hee with e6 | ⟨e6, rfl⟩
  all_goals
    go_wp2_with fail
    generalize ((w.alloc (.cells #[.int .i64 (ra : Int), .bool rs, .slice A ro.length cap] 99)).alloc (.cells #[.int .i64 k, .string (str tx), .int .i64 n, .int .i64 a, .int .i64 b] 49)).alloc (.cells #[.int .i64 0, .bool false, .slice none 0 0] 99) = w3 at *
    refine (ratom_any ⟨k, tx, n, a, b⟩ _ w3).mono ?_
    rintro e w4 ⟨rfl, hb4⟩
    have hsz3 : w.heap.size ≤ w3.heap.size := HB3.out.size
    have HB4 := Lib.hid (HB3.out.trans (hb4.mono hsz3))
    have HR4 := Lib.hid (HBR.out.belowW hb4); have HT4 := Lib.hid (HBT.out.belowW hb4); have HZ4 := Lib.hid (HBZ.out.belowW hb4)
    have r0 := HR4.out.cell 0; have r1 := HR4.out.cell 1; have r2 := HR4.out.cell 2
    have fr0 := HR4.out.frozen 0; have fr1 := HR4.out.frozen 1; have fr2 := HR4.out.frozen 2; have lr := HR4.out.lt
    have t0 := HT4.out.cell 0
    have fz0 := HZ4.out.frozen 0; have fz1 := HZ4.out.frozen 1; have fz2 := HZ4.out.frozen 2; have lz := HZ4.out.lt
    have z0 := HZ4.out.cell 0; have z1 := HZ4.out.cell 1; have z2 := HZ4.out.cell 2
    simp only [List.getElem?_toArray, List.getElem?_cons_zero, List.getElem?_cons_succ] at r0 r1 r2 t0 z0 z1 z2
    clear hb4
    have HZS := Lib.hid (show w.heap.size ≠ w.heap.size + 1 + 1 from by omega)
    rw [HAI.out]
    cases ra2 with
    | none =>
      simp only [orI]
      go_wp2
      refine bodyPost_ret (v := .tuple #[.agg #[.int .i64 (ra : Int), .bool rs, .slice A ro.length cap], .bool false]) ?_ rfl ?_
      · simp [results, Tryd.results77, go_sem, fz0, fz1, fz2, lz, z0, z1, z2]
      · refine RwRet.bad ?_ HR0.out rfl
        exact ((HB4.out.setCell (by show w.heap.size ≤ w.heap.size + 1 + 1; omega) _).setCell (by show w.heap.size ≤ w.heap.size + 1 + 1; omega) _).setCell (by show w.heap.size ≤ w.heap.size + 1 + 1; omega) _
    | some q =>
      have e8 : (k == 8) = false := by simpa using h8
      have HR := Lib.hid (HR0.out.trans (by simp only []; rw [if_neg h8]))
      clear h8
      simp only [orI]
      go_wp2
      refine bodyPost_ret (v := .tuple #[.agg #[.int .i64 (q : Int), .bool rs, .slice A ro.length cap], .bool true]) ?_ rfl ?_
      · simp [results, Tryd.results77, go_sem, fz0, fz1, fz2, lz, z0, z1, z2]
      · have hbz := (((HB4.out.setCell (p := ⟨w.heap.size, 0, none⟩) (Nat.le_refl _) (.int .i64 (q : Int))).setCell (p := ⟨w.heap.size + 1 + 1, 0, none⟩) (by show w.heap.size ≤ w.heap.size + 1 + 1; omega) (.int .i64 (q : Int))).setCell (p := ⟨w.heap.size + 1 + 1, 1, none⟩) (by show w.heap.size ≤ w.heap.size + 1 + 1; omega) (.bool rs)).setCell (p := ⟨w.heap.size + 1 + 1, 2, none⟩) (by show w.heap.size ≤ w.heap.size + 1 + 1; omega) (.slice A ro.length cap)
        exact RwRet.good hbz HR.out rfl (RwV.of HV.out HBW.out hbz q rs)
end Go.Proofs.YtcomdkejpaoneaaDoor
end
section
namespace Go.Proofs.YtcomdkejpaoneaaDoor
open Go.RowKit
set_option maxRecDepth 100000
set_option maxHeartbeats 1000000
set_option linter.unusedSimpArgs false
set_option linter.unusedVariables false
theorem OwnL.stepAppendAny {α : Type} {S : Shape α} (hS : S.Ok) {w : World} {B C : Nat} {v x : Value} {l m : List α} (h : OwnL S w B v l) (hx : RdL S w C x m) {ops : Array Oper} {o : Oper} {a : Act} {K : Act → World → Prop} {Q : Exit → Act → World → Prop} {E : Prop} (hgd : o.guard = none) (s y : Operand)
    (ho : o.op = .call { callee := .builtin .append, args := #[s, y], argTypes := #[S.tS, S.tS] }) (hs : a.eval s = v) (hy : a.eval y = x) (hB : B ≤ w.heap.size) (hl : l.length + m.length ≤ 100000000000)
    (k : ∀ v' w', OwnL S w' B v' (l ++ m) → Below B w w' → KeptBut w w' v → (v'.ownBlock = v.ownBlock ∨ v'.ownBlock = some w.heap.size) → K (a.put o.dst v') w') :
    if Region.wanted o (yielded ops a.tmps) = true then Oper.wp Tryd.prog o a w K Q else E := by
  have hw : Region.wanted o (yielded ops a.tmps) = true := by simp [Region.wanted, hgd]
  rw [if_pos hw]
  obtain ⟨i0, hi, hz0, hz1, hz2⟩ := info_parts hS.info
  have hlt := World.ownsRow.lt h
  obtain ⟨A, cap, rfl, h1, h2, h3, h4⟩ := hx
  cases A with
  | none =>
    have e : m = [] := by
      rcases Nat.eq_zero_or_pos m.length with h0 | h0
      · exact List.eq_nil_of_length_eq_zero h0
      · obtain ⟨_, e, _⟩ := h3 h0; cases e
    subst e
    rw [h4 rfl] at hy
    have hrun := run_append_owned_none (P := Tryd.prog) (w := w) B S.tS o.type S.tE i0 S.size hS.under hi v l.length (S.cells l) h
    unfold Oper.wp
    simp [execOp, ho, resolve, invoke, builtin, hs, hy, hrun, Result.andThen]
    exact k v w (by rw [List.append_nil]; exact h) (Below.refl _ _) (fun _ _ _ => rfl) (.inl rfl)
  | some ad =>
    have hc : ∀ j u, (S.cells m)[j]? = some u → w.cell? (ad.add j) = some u := by
      intro j u hu
      rcases Nat.eq_zero_or_pos m.length with h0 | h0
      · rw [List.eq_nil_of_length_eq_zero h0] at hu; simp [Shape.cells] at hu
      · obtain ⟨a', e, _, hc⟩ := h3 h0
        cases e
        exact hc j u hu
    obtain ⟨v', w', hr, g2, g3, _, g5⟩ := run_append_own_at (P := Tryd.prog) w B S.tS o.type S.tE i0 S.zero S.size S.bytes hS.under hi hz0 hz1 hz2 hS.zs hS.pos v l.length (S.cells l) h ad m.length cap (S.cells m) (Shape.cells_length hS m) hc (by
      intro u hu
      obtain ⟨x, _, hx⟩ := List.mem_flatMap.1 hu
      exact hS.one x u hx) (by unfold maxLen; omega) (by
      have := hS.small
      have h1 : (l.length + m.length) * S.bytes ≤ 100000000000 * 1000 := Nat.mul_le_mul hl this
      omega) hB
    unfold Oper.wp execOp
    simp only [ho, resolve, invoke, builtin, Sem.run_bind, Sem.run_pure, Result.andThen_ok, List.map_toArray, List.map_cons, List.map_nil, hs, hy, hr]
    refine k v' w' ?_ ?_ ?_ g5
    · unfold OwnL
      rw [Shape.cells_append, List.length_append]
      exact g2
    · exact (Below.refl _ _).grown g3 hB (fun g hg => (hlt g hg).1)
    · intro b hb hv
      exact g3.block b hb (fun e => hv e.symm)
end Go.Proofs.YtcomdkejpaoneaaDoor
end
section
namespace Go.Proofs.YtcomdkejpaoneaaDoor
open Go.RowKit
set_option maxRecDepth 100000
set_option maxHeartbeats 4000000
set_option linter.unusedSimpArgs false
set_option linter.unusedVariables false
theorem alloc_cell0' {w : World} {cs : Array Value} {t : TypeId} {b : Nat} {u : Value} (hb : b = w.heap.size) (h : cs[0]? = some u) : (w.alloc (.cells cs t)).cell? ⟨b, 0, none⟩ = some u := by
  subst hb; rw [World.cell?_alloc_new]; exact h
theorem enc1 {w : World} {b : Nat} {x : Bool} (h : w.cell? ⟨b, 0, none⟩ = some (.bool x)) : ∀ j u, (rbS.enc x)[j]? = some u → w.cell? ⟨b, j, none⟩ = some u := by
  intro j u hu
  cases j with
  | zero => cases hu; exact h
  | succ j => cases hu
theorem OwnL.lit0' {w : World} {t : TypeId} {B b : Nat} (hb : b = w.heap.size) (hB : B ≤ w.heap.size) (ht : t = rbS.tE) : OwnL rbS (w.alloc (.cells #[] t)) B (.slice (some ⟨b, 0, none⟩) 0 0) [] := by
  subst hb; subst ht; exact OwnL.lit0 rbS w hB
theorem KeptBut.cellSome {w w' : World} {v : Value} {B b o : Nat} {l : List Bool} {u : Value} (h : KeptBut w w' v) (ho : OwnL rbS w B v l) (hc : w.cell? ⟨b, o, none⟩ = some u) (hne : v.ownBlock ≠ some b) : w'.cell? ⟨b, o, none⟩ = some u := by
  have hlt : b < w.heap.size := by
    rcases Nat.lt_or_ge b w.heap.size with h1 | h1
    · exact h1
    · rw [World.cell?, show w.heap[b]? = none from Array.getElem?_eq_none h1] at hc; cases hc
  exact (h.cell hlt hne).trans hc
theorem begun_end {w w4 W : World} {g c : Nat} {v0 : Value} {ro0 : List Bool} {ro : List Bool} {rs : Bool} {r : Option Rw} (hb4 : Below w.heap.size w w4) (hb : Below w4.heap.size w4 W) (ho : OwnL rbS W w4.heap.size (.slice (some ⟨g, 0, none⟩) (ro.length + 1) c) (ro ++ [rs])) (lr : w.heap.size < w4.heap.size) (lz : w.heap.size + 1 + 1 < w4.heap.size) (hr : r = some ⟨0, false, ro ++ [rs]⟩) :
    RwRet r v0 ro0 w (.returned (.tuple #[.agg #[.int .i64 0, .bool false, .slice (some ⟨g, 0, none⟩) (ro.length + 1) c], .bool true])) ((((((W.setCell ⟨w.heap.size, 2, none⟩ (.slice (some ⟨g, 0, none⟩) (ro.length + 1) c)).setCell ⟨w.heap.size, 1, none⟩ (.bool false)).setCell ⟨w.heap.size, 0, none⟩ (.int .i64 0)).setCell ⟨w.heap.size + 1 + 1, 0, none⟩ (.int .i64 0)).setCell ⟨w.heap.size + 1 + 1, 1, none⟩ (.bool false)).setCell ⟨w.heap.size + 1 + 1, 2, none⟩ (.slice (some ⟨g, 0, none⟩) (ro.length + 1) c)) := by
  have h1 : w.heap.size ≤ w.heap.size + 1 + 1 := by omega
  have hB : Below w.heap.size w W := hb4.trans (hb.mono hb4.size)
  have ho2 := (((((ho.far (p := ⟨w.heap.size, 2, none⟩) lr (.slice (some ⟨g, 0, none⟩) (ro.length + 1) c)).far (p := ⟨w.heap.size, 1, none⟩) lr (.bool false)).far (p := ⟨w.heap.size, 0, none⟩) lr (.int .i64 0)).far (p := ⟨w.heap.size + 1 + 1, 0, none⟩) lz (.int .i64 0)).far (p := ⟨w.heap.size + 1 + 1, 1, none⟩) lz (.bool false)).far (p := ⟨w.heap.size + 1 + 1, 2, none⟩) lz (.slice (some ⟨g, 0, none⟩) (ro.length + 1) c)
  refine RwRet.good ?_ hr rfl ⟨_, rfl, ?_⟩
  · exact (((((hB.setCell (p := ⟨w.heap.size, 2, none⟩) (Nat.le_refl _) _).setCell (p := ⟨w.heap.size, 1, none⟩) (Nat.le_refl _) _).setCell (p := ⟨w.heap.size, 0, none⟩) (Nat.le_refl _) _).setCell (p := ⟨w.heap.size + 1 + 1, 0, none⟩) h1 _).setCell (p := ⟨w.heap.size + 1 + 1, 1, none⟩) h1 _).setCell (p := ⟨w.heap.size + 1 + 1, 2, none⟩) h1 _
  · exact .inr (ho2.more hb4.size)
theorem rbegun_8 (x : Value) (r : Rw) (t : Lt) (field : Bool) (w : World) (B : Nat) (v : Value) (hx : RwV w B v x r) (h8 : t.kind = 8) (hl : r.open_.length ≤ 1000000000) :
    Calls Tryd.prog 77 #[x, ltVal t, .bool field] w (RwRet (rBegun r t field) v r.open_ w) := by
  obtain ⟨k, tx, n, a, b⟩ := t
  obtain ⟨hBw, rfl, hv⟩ := hx
  obtain ⟨A, cap, rfl, hc1, hc2⟩ := hv.open_
  obtain ⟨ra, rs, ro⟩ := r
  simp only [] at hv hc1 h8 hl
  have HV := Lib.hid hv; have HBW := Lib.hid hBw; clear hBw
  clear hv
  unfold ltVal
  simp only []
  have HR0 := Lib.hid (show rBegun ⟨ra, rs, ro⟩ ⟨k, tx, n, a, b⟩ field = some ⟨0, false, ro ++ [rs]⟩ from by unfold rBegun rAtom; simp [h8])
  have hat : atomI ⟨k, tx, n, a, b⟩ field = 0 := by unfold atomI rAtom; simp [h8]
  have e6 : (k == 6) = false := by rw [h8]; decide
  have e8 : (k == 8) = true := by rw [h8]; decide
  have HAT := Lib.hid hat
  have HL := Lib.hid hl
  have HCC := Lib.hid hc1
  clear h8 hat hl hc1 hc2
  have HBR := Lib.hid ((((Blk.new w 99 #[.int .i64 (ra : Int), .bool rs, .slice A ro.length cap]).alloc (.cells #[.int .i64 k, .string (str tx), .int .i64 n, .int .i64 a, .int .i64 b] 49)).alloc (.cells #[.int .i64 0, .bool false, .slice none 0 0] 99)))
  have HBT := Lib.hid ((Blk.new (w.alloc (.cells #[.int .i64 (ra : Int), .bool rs, .slice A ro.length cap] 99)) 49 #[.int .i64 k, .string (str tx), .int .i64 n, .int .i64 a, .int .i64 b]).alloc (.cells #[.int .i64 0, .bool false, .slice none 0 0] 99))
  have HBZ := Lib.hid (Blk.new ((w.alloc (.cells #[.int .i64 (ra : Int), .bool rs, .slice A ro.length cap] 99)).alloc (.cells #[.int .i64 k, .string (str tx), .int .i64 n, .int .i64 a, .int .i64 b] 49)) 99 #[.int .i64 0, .bool false, .slice none 0 0])
  have HB3 := Lib.hid (below3 w (.cells #[.int .i64 (ra : Int), .bool rs, .slice A ro.length cap] 99) (.cells #[.int .i64 k, .string (str tx), .int .i64 n, .int .i64 a, .int .i64 b] 49) (.cells #[.int .i64 0, .bool false, .slice none 0 0] 99))
  simp only [World.size_alloc] at HBT HBZ
  go_enter Tryd.func77, Tryd.ntmps77
  go_wp2_with fail
  generalize ((w.alloc (.cells #[.int .i64 (ra : Int), .bool rs, .slice A ro.length cap] 99)).alloc (.cells #[.int .i64 k, .string (str tx), .int .i64 n, .int .i64 a, .int .i64 b] 49)).alloc (.cells #[.int .i64 0, .bool false, .slice none 0 0] 99) = w3 at *
  refine (ratom_any ⟨k, tx, n, a, b⟩ _ w3).mono ?_
  rintro e w4 ⟨rfl, hb4⟩
  have hsz3 : w.heap.size ≤ w3.heap.size := HB3.out.size
  have HB4 := Lib.hid (HB3.out.trans (hb4.mono hsz3))
  have HR4 := Lib.hid (HBR.out.belowW hb4); have HT4 := Lib.hid (HBT.out.belowW hb4); have HZ4 := Lib.hid (HBZ.out.belowW hb4)
  have t0 := HT4.out.cell 0
  have lr := HR4.out.lt; have lz := HZ4.out.lt
  simp only [List.getElem?_toArray, List.getElem?_cons_zero, List.getElem?_cons_succ] at t0
  have HSZ4 := Lib.hid (show w.heap.size ≤ w4.heap.size from HB4.out.size)
  have HRD := Lib.hid (fun (W : World) (hW : Below w4.heap.size w4 W) => (((HV.out.belowW HBW.out HB4.out).more (Nat.le_trans HBW.out HB4.out.size)).below hW))
  have HS := Lib.hid (fun (W : World) (hW : Below w4.heap.size w4 W) => (show W.cell? ⟨w.heap.size, 1, none⟩ = some (.bool rs) ∧ W.cell? ⟨w.heap.size, 2, none⟩ = some (.slice A ro.length cap) from ⟨(hW.cell (p := ⟨w.heap.size, 1, none⟩) lr).trans (HR4.out.cell 1), (hW.cell (p := ⟨w.heap.size, 2, none⟩) lr).trans (HR4.out.cell 2)⟩))
  have HBR2 := Lib.hid (fun (W : World) (hW : Below w4.heap.size w4 W) => HR4.out.below hW lr)
  have HBZ2 := Lib.hid (fun (W : World) (hW : Below w4.heap.size w4 W) => HZ4.out.below hW lz)
  clear hb4
  rw [HAT.out]
  go_wp2_with fail
  refine ph_region (fun W => W.cell? ⟨w.heap.size, 1, none⟩ = some (.bool rs) ∧ W.cell? ⟨w.heap.size, 2, none⟩ = some (.slice A ro.length cap)) 9 (by kernel_rfl) ?_
  have hS0 := HS.out w4.drew (Below.refl _ _).drew
  refine phAny_take (i := 1) (v := .pointer (some ⟨w.heap.size, 2, none⟩)) [7, 3, 2] rfl (by kernel_rfl) (fun _ _ _ h => h) (Or.inl ⟨by rfl, fun W1 hS1 => by obtain ⟨s0, s1⟩ := hS1; clear hS0; go_simp⟩) hS0 ?_
  simp only [Act.put, List.setIfInBounds_toArray, List.set_cons_zero, List.set_cons_succ]
  refine phAny_take (i := 2) (v := .slice A ro.length cap) [7, 3] rfl (by kernel_rfl) (fun _ _ _ h => h) (Or.inl ⟨by rfl, fun W1 hS1 => by obtain ⟨s0, s1⟩ := hS1; clear hS0; go_simp⟩) hS0 ?_
  simp only [Act.put, List.setIfInBounds_toArray, List.set_cons_zero, List.set_cons_succ]
  refine phAny_take (i := 4) (v := .pointer (some ⟨w.heap.size, 1, none⟩)) [7, 6, 5] rfl (by kernel_rfl) (fun _ _ _ h => h) (Or.inl ⟨by rfl, fun W1 hS1 => by obtain ⟨s0, s1⟩ := hS1; clear hS0; go_simp⟩) hS0 ?_
  simp only [Act.put, List.setIfInBounds_toArray, List.set_cons_zero, List.set_cons_succ]
  refine phAny_take (i := 5) (v := .bool rs) [7, 6] rfl (by kernel_rfl) (fun _ _ _ h => h) (Or.inl ⟨by rfl, fun W1 hS1 => by obtain ⟨s0, s1⟩ := hS1; clear hS0; go_simp⟩) hS0 ?_
  simp only [Act.put, List.setIfInBounds_toArray, List.set_cons_zero, List.set_cons_succ]
  clear hS0 t0
  have B0 := Lib.hid (show Below w4.heap.size w4 w4.drew from (Below.refl _ _).drew)
  refine phAny_ready (rs := [0, 6]) (by kernel_rfl) (by simp) ?_
  refine phAll.cons rfl (fun K hK => ?_) ?_
  · skip
    go_simp
    have B1 := Lib.hid (B0.out.alloc (B0.out.size) (.cells #[] 4))
    have O2 := Lib.hid (OwnL.lit0' (w := w4.drew) (t := 4) (B := w4.heap.size) (b := w4.heap.size) (by simp) (by have := B0.out.size; exact this) rfl)
    refine hK.out _ _ (fun _ => HS.out _ B1.out) ?_
    clear hK K
    try simp only [Act.put, List.setIfInBounds_toArray, List.set_cons_zero, List.set_cons_succ]
    refine phAny_ready (rs := [3, 6]) (by kernel_rfl) (by simp) ?_
    refine phAll.cons rfl (fun K hK => ?_) ?_
    · skip
      refine OwnL.stepAppendAny rbOk O2.out (HRD.out _ B1.out) rfl _ _ rfl rfl rfl (B1.out.size) (by have := HL.out; simp; omega) (fun v5 wx4 h2 h3 h3k h5 => ?_)
      have B3 := Lib.hid (B1.out.trans h3)
      have O6 := Lib.hid (show OwnL rbS wx4 w4.heap.size v5 ro from h2)
      clear h2 h3 h3k h5
      refine hK.out _ _ (fun _ => HS.out _ B3.out) ?_
      clear hK K
      try simp only [Act.put, List.setIfInBounds_toArray, List.set_cons_zero, List.set_cons_succ]
      refine phAny_ready (rs := [6]) (by kernel_rfl) (by simp) ?_
      refine phAll.cons rfl (fun K hK => ?_) ?_
      · skip
        go_simp
        have B7 := Lib.hid (B3.out.alloc (B3.out.size) (.cells #[.bool rs] 4))
        have C8 := Lib.hid (show (wx4.alloc (.cells #[.bool rs] 4)).cell? ⟨wx4.heap.size, 0, none⟩ = some (.bool rs) from alloc_cell0' (by simp) rfl)
        have O9 := Lib.hid (O6.out.alloc (.cells #[.bool rs] 4))
        refine hK.out _ _ (fun _ => HS.out _ B7.out) ?_
        clear hK K
        try simp only [Act.put, List.setIfInBounds_toArray, List.set_cons_zero, List.set_cons_succ]
        refine phAny_ready (rs := [7]) (by kernel_rfl) (by simp) ?_
        refine phAll.cons rfl (fun K hK => ?_) ?_
        · skip
          refine OwnL.stepAppendG rbOk O9.out rs _ rfl _ _ rfl rfl rfl (enc1 C8.out) (B7.out.size) (by have := HL.out; omega) (fun g12 c13 wx11 h2 h3 h3k h4 h5 => ?_)
          have B10 := Lib.hid (B7.out.trans h3)
          have O14 := Lib.hid h2
          clear h2 h3 h3k h4 h5
          refine hK.out _ _ (fun _ => HS.out _ B10.out) ?_
          clear hK K
          try simp only [Act.put, List.setIfInBounds_toArray, List.set_cons_zero, List.set_cons_succ]
          refine phAny_pure (i := 8) (v := .pointer (some ⟨w.heap.size, 2, none⟩)) rfl (by kernel_rfl) (fun _ _ _ h => h) (Or.inl ⟨by rfl, fun W1 _ => by go_simp⟩) (fun _ => HS.out _ B10.out) ?_
          try simp only [Act.put, List.setIfInBounds_toArray, List.set_cons_zero, List.set_cons_succ]
          refine phAny_ready (rs := [9]) (by kernel_rfl) (by simp) ?_
          refine phAll.cons rfl (fun K hK => ?_) ?_
          · skip
            have hbr := HBR2.out wx11 B10.out
            have hbz := HBZ2.out wx11 B10.out
            have r0 := hbr.cell 0; have r1 := hbr.cell 1; have r2 := hbr.cell 2; have fr0 := hbr.frozen 0; have fr1 := hbr.frozen 1; have fr2 := hbr.frozen 2; have lr5 := hbr.lt
            have z0 := hbz.cell 0; have z1 := hbz.cell 1; have z2 := hbz.cell 2; have fz0 := hbz.frozen 0; have fz1 := hbz.frozen 1; have fz2 := hbz.frozen 2; have lz5 := hbz.lt
            simp only [List.getElem?_toArray, List.getElem?_cons_zero, List.getElem?_cons_succ] at r0 r1 r2 z0 z1 z2
            clear hbr hbz
            go_simp
            refine hK.out _ _ (fun h => nomatch (show true = false from h)) ?_
            clear hK K
            try simp only [Act.put, List.setIfInBounds_toArray, List.set_cons_zero, List.set_cons_succ]
            refine phAny_done (by kernel_rfl) ?_ _
            have HZS := Lib.hid (show w.heap.size ≠ w.heap.size + 1 + 1 from by omega)
            go_wp2
            refine bodyPost_ret (v := .tuple #[.agg #[.int .i64 0, .bool false, .slice (some ⟨g12, 0, none⟩) (ro.length + 1) c13], .bool true]) ?_ rfl ?_
            · simp [results, Tryd.results77, go_sem, fz0, fz1, fz2, lz5, z0, z1, z2]
            · exact begun_end HB4.out B10.out O14.out lr lz HR0.out
          exact phAll.nil
        exact phAll.nil
      exact phAll.nil
    refine phAll.cons rfl (fun K hK => ?_) ?_
    · skip
      go_simp
      have B16 := Lib.hid (B1.out.alloc (B1.out.size) (.cells #[.bool rs] 4))
      have C17 := Lib.hid (show ((w4.drew.alloc (.cells #[] 4)).alloc (.cells #[.bool rs] 4)).cell? ⟨w4.heap.size + 1, 0, none⟩ = some (.bool rs) from alloc_cell0' (by simp) rfl)
      have O18 := Lib.hid (O2.out.alloc (.cells #[.bool rs] 4))
      refine hK.out _ _ (fun _ => HS.out _ B16.out) ?_
      clear hK K
      try simp only [Act.put, List.setIfInBounds_toArray, List.set_cons_zero, List.set_cons_succ]
      refine phAny_ready (rs := [3]) (by kernel_rfl) (by simp) ?_
      refine phAll.cons rfl (fun K hK => ?_) ?_
      · skip
        refine OwnL.stepAppendAny rbOk O18.out (HRD.out _ B16.out) rfl _ _ rfl rfl rfl (B16.out.size) (by have := HL.out; simp; omega) (fun v21 wx20 h2 h3 h3k h5 => ?_)
        have B19 := Lib.hid (B16.out.trans h3)
        have O22 := Lib.hid (show OwnL rbS wx20 w4.heap.size v21 ro from h2)
        have C23 := Lib.hid (h3k.cellSome O18.out C17.out (by intro h; simp [Value.ownBlock] at h <;> omega))
        have NC23 := Lib.hid (show v21.ownBlock ≠ some (w4.heap.size + 1) from by rcases h5 with h5 | h5 <;> (rw [h5]; intro h; simp [Value.ownBlock] at h <;> omega))
        clear h2 h3 h3k h5
        refine hK.out _ _ (fun _ => HS.out _ B19.out) ?_
        clear hK K
        try simp only [Act.put, List.setIfInBounds_toArray, List.set_cons_zero, List.set_cons_succ]
        refine phAny_ready (rs := [7]) (by kernel_rfl) (by simp) ?_
        refine phAll.cons rfl (fun K hK => ?_) ?_
        · skip
          refine OwnL.stepAppendG rbOk O22.out rs _ rfl _ _ rfl rfl rfl (enc1 C23.out) (B19.out.size) (by have := HL.out; omega) (fun g26 c27 wx25 h2 h3 h3k h4 h5 => ?_)
          have B24 := Lib.hid (B19.out.trans h3)
          have O28 := Lib.hid h2
          clear h2 h3 h3k h4 h5
          refine hK.out _ _ (fun _ => HS.out _ B24.out) ?_
          clear hK K
          try simp only [Act.put, List.setIfInBounds_toArray, List.set_cons_zero, List.set_cons_succ]
          refine phAny_pure (i := 8) (v := .pointer (some ⟨w.heap.size, 2, none⟩)) rfl (by kernel_rfl) (fun _ _ _ h => h) (Or.inl ⟨by rfl, fun W1 _ => by go_simp⟩) (fun _ => HS.out _ B24.out) ?_
          try simp only [Act.put, List.setIfInBounds_toArray, List.set_cons_zero, List.set_cons_succ]
          refine phAny_ready (rs := [9]) (by kernel_rfl) (by simp) ?_
          refine phAll.cons rfl (fun K hK => ?_) ?_
          · skip
            have hbr := HBR2.out wx25 B24.out
            have hbz := HBZ2.out wx25 B24.out
            have r0 := hbr.cell 0; have r1 := hbr.cell 1; have r2 := hbr.cell 2; have fr0 := hbr.frozen 0; have fr1 := hbr.frozen 1; have fr2 := hbr.frozen 2; have lr5 := hbr.lt
            have z0 := hbz.cell 0; have z1 := hbz.cell 1; have z2 := hbz.cell 2; have fz0 := hbz.frozen 0; have fz1 := hbz.frozen 1; have fz2 := hbz.frozen 2; have lz5 := hbz.lt
            simp only [List.getElem?_toArray, List.getElem?_cons_zero, List.getElem?_cons_succ] at r0 r1 r2 z0 z1 z2
            clear hbr hbz
            go_simp
            refine hK.out _ _ (fun h => nomatch (show true = false from h)) ?_
            clear hK K
            try simp only [Act.put, List.setIfInBounds_toArray, List.set_cons_zero, List.set_cons_succ]
            refine phAny_done (by kernel_rfl) ?_ _
            have HZS := Lib.hid (show w.heap.size ≠ w.heap.size + 1 + 1 from by omega)
            go_wp2
            refine bodyPost_ret (v := .tuple #[.agg #[.int .i64 0, .bool false, .slice (some ⟨g26, 0, none⟩) (ro.length + 1) c27], .bool true]) ?_ rfl ?_
            · simp [results, Tryd.results77, go_sem, fz0, fz1, fz2, lz5, z0, z1, z2]
            · exact begun_end HB4.out B24.out O28.out lr lz HR0.out
          exact phAll.nil
        exact phAll.nil
      exact phAll.nil
    exact phAll.nil
  refine phAll.cons rfl (fun K hK => ?_) ?_
  · skip
    go_simp
    have B30 := Lib.hid (B0.out.alloc (B0.out.size) (.cells #[.bool rs] 4))
    have C31 := Lib.hid (show (w4.drew.alloc (.cells #[.bool rs] 4)).cell? ⟨w4.heap.size, 0, none⟩ = some (.bool rs) from alloc_cell0' (by simp) rfl)
    refine hK.out _ _ (fun _ => HS.out _ B30.out) ?_
    clear hK K
    try simp only [Act.put, List.setIfInBounds_toArray, List.set_cons_zero, List.set_cons_succ]
    refine phAny_ready (rs := [0]) (by kernel_rfl) (by simp) ?_
    refine phAll.cons rfl (fun K hK => ?_) ?_
    · skip
      go_simp
      have B32 := Lib.hid (B30.out.alloc (B30.out.size) (.cells #[] 4))
      have O33 := Lib.hid (OwnL.lit0' (w := (w4.drew.alloc (.cells #[.bool rs] 4))) (t := 4) (B := w4.heap.size) (b := w4.heap.size + 1) (by simp) (by have := B30.out.size; exact this) rfl)
      have C34 := Lib.hid (show ((w4.drew.alloc (.cells #[.bool rs] 4)).alloc (.cells #[] 4)).cell? ⟨w4.heap.size, 0, none⟩ = some (.bool rs) from (World.cell?_alloc_lt _ _ _ (by simp)).trans C31.out)
      refine hK.out _ _ (fun _ => HS.out _ B32.out) ?_
      clear hK K
      try simp only [Act.put, List.setIfInBounds_toArray, List.set_cons_zero, List.set_cons_succ]
      refine phAny_ready (rs := [3]) (by kernel_rfl) (by simp) ?_
      refine phAll.cons rfl (fun K hK => ?_) ?_
      · skip
        refine OwnL.stepAppendAny rbOk O33.out (HRD.out _ B32.out) rfl _ _ rfl rfl rfl (B32.out.size) (by have := HL.out; simp; omega) (fun v37 wx36 h2 h3 h3k h5 => ?_)
        have B35 := Lib.hid (B32.out.trans h3)
        have O38 := Lib.hid (show OwnL rbS wx36 w4.heap.size v37 ro from h2)
        have C39 := Lib.hid (h3k.cellSome O33.out C34.out (by intro h; simp [Value.ownBlock] at h <;> omega))
        have NC39 := Lib.hid (show v37.ownBlock ≠ some (w4.heap.size) from by rcases h5 with h5 | h5 <;> (rw [h5]; intro h; simp [Value.ownBlock] at h <;> omega))
        clear h2 h3 h3k h5
        refine hK.out _ _ (fun _ => HS.out _ B35.out) ?_
        clear hK K
        try simp only [Act.put, List.setIfInBounds_toArray, List.set_cons_zero, List.set_cons_succ]
        refine phAny_ready (rs := [7]) (by kernel_rfl) (by simp) ?_
        refine phAll.cons rfl (fun K hK => ?_) ?_
        · skip
          refine OwnL.stepAppendG rbOk O38.out rs _ rfl _ _ rfl rfl rfl (enc1 C39.out) (B35.out.size) (by have := HL.out; omega) (fun g42 c43 wx41 h2 h3 h3k h4 h5 => ?_)
          have B40 := Lib.hid (B35.out.trans h3)
          have O44 := Lib.hid h2
          clear h2 h3 h3k h4 h5
          refine hK.out _ _ (fun _ => HS.out _ B40.out) ?_
          clear hK K
          try simp only [Act.put, List.setIfInBounds_toArray, List.set_cons_zero, List.set_cons_succ]
          refine phAny_pure (i := 8) (v := .pointer (some ⟨w.heap.size, 2, none⟩)) rfl (by kernel_rfl) (fun _ _ _ h => h) (Or.inl ⟨by rfl, fun W1 _ => by go_simp⟩) (fun _ => HS.out _ B40.out) ?_
          try simp only [Act.put, List.setIfInBounds_toArray, List.set_cons_zero, List.set_cons_succ]
          refine phAny_ready (rs := [9]) (by kernel_rfl) (by simp) ?_
          refine phAll.cons rfl (fun K hK => ?_) ?_
          · skip
            have hbr := HBR2.out wx41 B40.out
            have hbz := HBZ2.out wx41 B40.out
            have r0 := hbr.cell 0; have r1 := hbr.cell 1; have r2 := hbr.cell 2; have fr0 := hbr.frozen 0; have fr1 := hbr.frozen 1; have fr2 := hbr.frozen 2; have lr5 := hbr.lt
            have z0 := hbz.cell 0; have z1 := hbz.cell 1; have z2 := hbz.cell 2; have fz0 := hbz.frozen 0; have fz1 := hbz.frozen 1; have fz2 := hbz.frozen 2; have lz5 := hbz.lt
            simp only [List.getElem?_toArray, List.getElem?_cons_zero, List.getElem?_cons_succ] at r0 r1 r2 z0 z1 z2
            clear hbr hbz
            go_simp
            refine hK.out _ _ (fun h => nomatch (show true = false from h)) ?_
            clear hK K
            try simp only [Act.put, List.setIfInBounds_toArray, List.set_cons_zero, List.set_cons_succ]
            refine phAny_done (by kernel_rfl) ?_ _
            have HZS := Lib.hid (show w.heap.size ≠ w.heap.size + 1 + 1 from by omega)
            go_wp2
            refine bodyPost_ret (v := .tuple #[.agg #[.int .i64 0, .bool false, .slice (some ⟨g42, 0, none⟩) (ro.length + 1) c43], .bool true]) ?_ rfl ?_
            · simp [results, Tryd.results77, go_sem, fz0, fz1, fz2, lz5, z0, z1, z2]
            · exact begun_end HB4.out B40.out O44.out lr lz HR0.out
          exact phAll.nil
        exact phAll.nil
      exact phAll.nil
    exact phAll.nil
  exact phAll.nil
end Go.Proofs.YtcomdkejpaoneaaDoor
end
