/- Merged for a claim by shake.py: Tk Tl Tp -/
import Derived.Test.YtcomdkejpaoneaaDoorKfA
import Derived.Test.YtcomdkejpaoneaaDoorKf11
import Derived.Test.YtcomdkejpaoneaaDoorKf17
import Derived.Test.YtcomdkejpaoneaaDoorKf26
import Derived.Test.YtcomdkejpaoneaaDoorKf27
import Derived.Test.YtcomdkejpaoneaaDoorKf33
import Derived.Test.YtcomdkejpaoneaaDoorKf38
section
namespace Go.Proofs.YtcomdkejpaoneaaDoor
open Go.RowKit
set_option maxRecDepth 100000
set_option maxHeartbeats 8000000
set_option linter.unusedSimpArgs false
set_option linter.unusedVariables false
def QkRet (r : Option Rw) (B : Nat) (w : World) (e : Ending) (w' : World) : Prop :=
 Below B w w' ∧ ∃ x, e = .returned (.tuple #[x, .bool r.isSome]) ∧ RwX x ∧ ∀ r', r = some r' → ∃ v, x = .agg #[.int .i64 (r'.at_ : Int), .bool r'.signed, v] ∧ OwnL rbS w' B v r'.open_
theorem QkRet.of {r : Option Rw} {v : Value} {ro : List Bool} {B : Nat} {w w' : World} {e : Ending} (h : RwRet r v ro w e w') (ho : OwnL rbS w B v ro) (hB : B ≤ w.heap.size) : QkRet r B w e w' := by
 obtain ⟨hb, x, he, hX, hx⟩ := h
 refine ⟨hb.mono hB, x, he, hX, fun r' hr => ?_⟩
 obtain ⟨v', hx', h⟩ := hx r' hr
 refine ⟨v', hx', ?_⟩
 rcases h with ⟨rfl, hl⟩ | h
 ·rw [hl]; exact ho.below hb
 ·exact h.more hB
theorem QkRet.bad {r : Option Rw} {B : Nat} {w w' : World} {x : Value} {bb : Bool} (hb : Below B w w') (hr : r = none) (hbb : bb = false) (hX : RwX x := by exact ⟨_, _, _, _, _, rfl⟩) : QkRet r B w (.returned (.tuple #[x, .bool bb])) w' := by
 subst hr hbb
 exact ⟨hb, x, rfl, hX, fun r2 h => by cases h⟩
theorem QkRet.good {r : Option Rw} {B : Nat} {w w' : World} {a : Nat} {s bb : Bool} {v : Value} {l : List Bool} (hb : Below B w w') (hr : r = some ⟨a, s, l⟩) (hbb : bb = true) (ho : OwnL rbS w' B v l) (hX : RwX (.agg #[.int .i64 (a : Int), .bool s, v]) := by exact ⟨_, _, _, _, _, rfl⟩) : QkRet r B w (.returned (.tuple #[.agg #[.int .i64 (a : Int), .bool s, v], .bool bb])) w' := by
 subst hr hbb
 exact ⟨hb, _, rfl, hX, fun r2 h => by cases h; exact ⟨v, rfl, ho⟩⟩
theorem own_row {w : World} {B g : Nat} {v u : Value} {l : List Bool} {cs : Array Value} {i : Nat} (h : OwnL rbS w B v l) (hb : Blk w g 99 cs) : OwnL rbS (w.setCell ⟨g, i, none⟩ u) B v l := h.farNe (h.offBlk hb (by decide)) _
theorem rd_one {w : World} {a : Addr} {B n c : Nat} {x : Bool} (hb : (a.add n).block < B) (h : w.cell? (a.add n) = some (.bool x)) (h1 : 1 ≤ c) (h2 : c ≤ maxLen) : RdL rbS w B (.slice (some (a.add n)) 1 c) [x] := by
 refine ⟨_, c, rfl, h1, h2, fun _ => ⟨_, rfl, hb, fun j u hu => ?_⟩, fun h => by cases h⟩
 cases j with
 | zero =>
  cases hu
  rw [show (a.add n).add 0 = a.add n from by rw [add_of_add]; rfl]
  exact h
 | succ j => cases j <;> cases hu
theorem own_cell0 {w : World} {B : Nat} {A : Option Addr} {n c : Nat} {b : Bool} (h : OwnL rbS w B (.slice A n c) [b]) : ∃ g, A = some ⟨g, 0, none⟩ ∧ n = 1 ∧ w.cell? ⟨g, 0, none⟩ = some (.bool b) := by
 obtain ⟨g, rfl, hc⟩ := h.at_ rbOk (k := 0) (by simp)
 have := h.form
 obtain ⟨A', c', e, -, -⟩ := this
 injection e with e1 e2 e3
 exact ⟨g, rfl, e2, hc 0 _ (by decide) rfl⟩
theorem rquick_ne (r : Rw) (t : Lt) (w : World) (B : Nat) (v : Value) (hB : B ≤ w.heap.size) (hv : OwnL rbS w B v r.open_) (hl : r.open_.length ≤ 1000000000) (hst : r.at_ ≤ 14) (hk : t.kind ≠ 8 ∧ t.kind ≠ 9) :
  Calls Tryd.prog 47 #[.agg #[.int .i64 (r.at_ : Int), .bool r.signed, v], ltVal t] w (QkRet (rStep r t) B w) := by
 obtain ⟨k, tx, n, a, b⟩ := t
 obtain ⟨A, cap, rfl, hc1, hc2⟩ := hv.form
 obtain ⟨ra, rs, ro⟩ := r
 simp only [] at hv hc1 hl hst hk
 have HV := LH hv; have HBW := LH hB; have HST := LH hst
 have HL := LH hl
 clear hv hl hc2 hB hst
 unfold ltVal
 simp only []
 have e8 : (k == 8) = false := by simpa using hk.1
 have e9 : (k == 9) = false := by simpa using hk.2
 clear hk hc1
 have HBR := LH ((((Blk.new w 99 #[.int .i64 (ra : Int), .bool rs, .slice A ro.length cap]).alloc (.cells #[.int .i64 k, .string (str tx), .int .i64 n, .int .i64 a, .int .i64 b] 49)).alloc (.cells #[.int .i64 0, .bool false, .slice none 0 0] 99)))
 have HBT := LH ((Blk.new (w.alloc (.cells #[.int .i64 (ra : Int), .bool rs, .slice A ro.length cap] 99)) 49 #[.int .i64 k, .string (str tx), .int .i64 n, .int .i64 a, .int .i64 b]).alloc (.cells #[.int .i64 0, .bool false, .slice none 0 0] 99))
 have HBZ := LH (Blk.new ((w.alloc (.cells #[.int .i64 (ra : Int), .bool rs, .slice A ro.length cap] 99)).alloc (.cells #[.int .i64 k, .string (str tx), .int .i64 n, .int .i64 a, .int .i64 b] 49)) 99 #[.int .i64 0, .bool false, .slice none 0 0])
 have HB3 := LH (below3 w (.cells #[.int .i64 (ra : Int), .bool rs, .slice A ro.length cap] 99) (.cells #[.int .i64 k, .string (str tx), .int .i64 n, .int .i64 a, .int .i64 b] 49) (.cells #[.int .i64 0, .bool false, .slice none 0 0] 99))
 simp only [World.size_alloc] at HBT HBZ
 go_enter Tryd.func47, Tryd.ntmps47
 go_wp2_with fail
 generalize ((w.alloc (.cells #[.int .i64 (ra : Int), .bool rs, .slice A ro.length cap] 99)).alloc (.cells #[.int .i64 k, .string (str tx), .int .i64 n, .int .i64 a, .int .i64 b] 49)).alloc (.cells #[.int .i64 0, .bool false, .slice none 0 0] 99) = w3 at *
 refine (rstep_any _ ⟨ra, rs, ro⟩ ⟨k, tx, n, a, b⟩ w3 w.heap.size _ ⟨HB3.out.size, rfl, (RdL.of_own HV.out).below HB3.out⟩ HL.out HST.out).mono ?_
 rintro e w5 ⟨hb5, x2, rfl, hX, hx2⟩
 have HX := LH hX
 obtain ⟨a2, s2, A2, n2, c2, rfl⟩ := hX
 have HZ5 := LH (HBZ.out.belowW hb5)
 have HF := LH (RwRet.fwd (B := w.heap.size) (z := w.heap.size + 1 + 1) (u0 := .int .i64 a2) (u1 := .bool s2) (u2 := .slice A2 n2 c2) (Nat.le_refl _) (by omega) HBZ.out.lt HB3.out hb5 HX.out hx2)
 have fz0 := HZ5.out.frozen 0; have fz1 := HZ5.out.frozen 1; have fz2 := HZ5.out.frozen 2; have lz := HZ5.out.lt
 have z0 := HZ5.out.cell 0; have z1 := HZ5.out.cell 1; have z2 := HZ5.out.cell 2
 simp only [List.getElem?_toArray, List.getElem?_cons_zero, List.getElem?_cons_succ] at z0 z1 z2
 clear hb5 hx2
 generalize (rStep ⟨ra, rs, ro⟩ ⟨k, tx, n, a, b⟩) = rr at *
 obtain ⟨bb, hbb⟩ : ∃ bb, bb = rr.isSome := ⟨_, rfl⟩
 have HBB := LH hbb
 rw [← hbb] at HF ⊢
 clear hbb
 go_wp2
 refine bodyPost_ret (v := .tuple #[.agg #[.int .i64 a2, .bool s2, .slice A2 n2 c2], .bool bb]) ?_ rfl ?_
 ·simp [results, Tryd.results47, go_sem, fz0, fz1, fz2, lz, z0, z1, z2]
 ·exact QkRet.of HF.out HV.out HBW.out
theorem rquick_8 (r : Rw) (t : Lt) (w : World) (B : Nat) (v : Value) (hB : B ≤ w.heap.size) (hv : OwnL rbS w B v r.open_) (hl : r.open_.length ≤ 1000000000) (hst : r.at_ ≤ 14) (hk : t.kind = 8) :
  Calls Tryd.prog 47 #[.agg #[.int .i64 (r.at_ : Int), .bool r.signed, v], ltVal t] w (QkRet (rStep r t) B w) := by
 obtain ⟨k, tx, n, a, b⟩ := t
 obtain ⟨A, cap, rfl, hc1, hc2⟩ := hv.form
 obtain ⟨ra, rs, ro⟩ := r
 simp only [] at hv hc1 hl hst hk
 have HV := LH hv; have HBW := LH hB; have HST := LH hst
 have HL := LH hl
 clear hv hl hc2 hB hst
 unfold ltVal
 simp only []
 have HR0 := LH (rStep_8 (t := ⟨k, tx, n, a, b⟩) hk ⟨ra, rs, ro⟩)
 have HR1 := LH (show rStep ⟨ra, rs, []⟩ ⟨k, tx, n, a, b⟩ = (op8 ⟨ra, rs, ro⟩).map fun b => ⟨0, false, [b]⟩ from rStep_8 (t := ⟨k, tx, n, a, b⟩) hk ⟨ra, rs, []⟩)
 have e8 : (k == 8) = true := by simpa using hk
 clear hk hc1
 have HBR := LH ((((Blk.new w 99 #[.int .i64 (ra : Int), .bool rs, .slice none 0 0]).alloc (.cells #[.int .i64 k, .string (str tx), .int .i64 n, .int .i64 a, .int .i64 b] 49)).alloc (.cells #[.int .i64 0, .bool false, .slice none 0 0] 99)))
 have HBT := LH ((Blk.new (w.alloc (.cells #[.int .i64 (ra : Int), .bool rs, .slice none 0 0] 99)) 49 #[.int .i64 k, .string (str tx), .int .i64 n, .int .i64 a, .int .i64 b]).alloc (.cells #[.int .i64 0, .bool false, .slice none 0 0] 99))
 have HBZ := LH (Blk.new ((w.alloc (.cells #[.int .i64 (ra : Int), .bool rs, .slice none 0 0] 99)).alloc (.cells #[.int .i64 k, .string (str tx), .int .i64 n, .int .i64 a, .int .i64 b] 49)) 99 #[.int .i64 0, .bool false, .slice none 0 0])
 have HB3 := LH (below3 w (.cells #[.int .i64 (ra : Int), .bool rs, .slice none 0 0] 99) (.cells #[.int .i64 k, .string (str tx), .int .i64 n, .int .i64 a, .int .i64 b] 49) (.cells #[.int .i64 0, .bool false, .slice none 0 0] 99))
 simp only [World.size_alloc] at HBT HBZ
 go_enter Tryd.func47, Tryd.ntmps47
 go_wp2_with fail
 generalize ((w.alloc (.cells #[.int .i64 (ra : Int), .bool rs, .slice none 0 0] 99)).alloc (.cells #[.int .i64 k, .string (str tx), .int .i64 n, .int .i64 a, .int .i64 b] 49)).alloc (.cells #[.int .i64 0, .bool false, .slice none 0 0] 99) = w3 at *
 refine (rstep_any _ ⟨ra, rs, []⟩ ⟨k, tx, n, a, b⟩ w3 w.heap.size _ ⟨HB3.out.size, rfl, RdL.nil _ _ _⟩ (by simp) HST.out).mono ?_
 rintro e w5 ⟨hb5, x2, rfl, hX, hx2⟩
 rw [HR1.out] at hx2 ⊢
 obtain ⟨a2, s2, A2, n2, c2, rfl⟩ := hX
 have HB5 := LH (HB3.out.trans (hb5.mono HB3.out.size))
 have HZ5 := LH ((HBZ.out.belowW hb5).alloc (.cells #[.int .i64 a2, .bool s2, .slice A2 n2 c2] 99))
 have HBX := LH (HB5.out.alloc HB5.out.size (.cells #[.int .i64 a2, .bool s2, .slice A2 n2 c2] 99))
 have HX6 := LH (Blk.new w5 99 #[.int .i64 a2, .bool s2, .slice A2 n2 c2])
 have HZN := LH (show w.heap.size + 1 + 1 < w5.heap.size from (HBZ.out.belowW hb5).lt)
 clear hb5
 cases hop : op8 ⟨ra, rs, ro⟩ with
 | none =>
  have HR := LH (show rStep ⟨ra, rs, ro⟩ ⟨k, tx, n, a, b⟩ = none from by rw [HR0.out, hop]; rfl)
  clear hx2 hop
  simp only [Option.map_none, Option.isSome_none]
  go_upto_region 12 with (fail)
  generalize w5.alloc (.cells #[.int .i64 a2, .bool s2, .slice A2 n2 c2] 99) = w6 at *
  have fz0 := HZ5.out.frozen 0; have fz1 := HZ5.out.frozen 1; have fz2 := HZ5.out.frozen 2; have lz := HZ5.out.lt
  have z0 := HZ5.out.cell 0; have z1 := HZ5.out.cell 1; have z2 := HZ5.out.cell 2
  have y0 := HX6.out.cell 0; have y1 := HX6.out.cell 1; have y2 := HX6.out.cell 2
  simp only [List.getElem?_toArray, List.getElem?_cons_zero, List.getElem?_cons_succ] at z0 z1 z2 y0 y1 y2
  go_wp2
  refine bodyPost_ret (v := .tuple #[.agg #[.int .i64 a2, .bool s2, .slice A2 n2 c2], .bool false]) ?_ rfl ?_
  ·simp [results, Tryd.results47, go_sem, fz0, fz1, fz2, lz, z0, z1, z2]
  ·exact QkRet.bad ((store3 HBX.out (by omega)).mono HBW.out) HR.out rfl
 | some bo =>
  have HR := LH (show rStep ⟨ra, rs, ro⟩ ⟨k, tx, n, a, b⟩ = some ⟨0, false, ro ++ [bo]⟩ from by rw [HR0.out, hop]; rfl)
  obtain ⟨v5, hx5, ho5⟩ := hx2 ⟨0, false, [bo]⟩ (by rw [hop]; rfl)
  have ho6 : OwnL rbS w5 w3.heap.size v5 [bo] := by
   rcases ho5 with ⟨_, h⟩ | h
   ·cases h
   ·exact h
  injection hx5 with hx5
  injection hx5 with hx5
  simp only [List.cons.injEq, Value.int.injEq, Value.bool.injEq, true_and, and_true] at hx5
  obtain ⟨ha2, rfl, rfl⟩ := hx5
  obtain rfl : a2 = 0 := ha2
  obtain ⟨g5, rfl, rfl, hg5⟩ := own_cell0 ho6
  have hg5l : g5 < w5.heap.size := (World.ownsRow.lt ho6 g5 rfl).2
  have g6 : (w5.alloc (.cells #[.int .i64 0, .bool false, .slice (some ⟨g5, 0, none⟩) 1 c2] 99)).cell? ⟨g5, 0, none⟩ = some (.bool bo) := (World.cell?_alloc_lt _ _ _ hg5l).trans hg5
  have hs6 : w.heap.size ≤ w5.heap.size := HB5.out.size
  have hs62 : (w5.alloc (.cells #[.int .i64 0, .bool false, .slice (some ⟨g5, 0, none⟩) 1 c2] 99)).heap.size = w5.heap.size + 1 := World.size_alloc _ _
  clear ho5 ho6 hx2 hop hg5 hg5l
  simp only [Option.map_some, Option.isSome_some]
  go_upto_region 8 with (fail)
  generalize w5.alloc (.cells #[.int .i64 0, .bool false, .slice (some ⟨g5, 0, none⟩) 1 c2] 99) = w6 at *
  have y0 := HX6.out.cell 0; have y1 := HX6.out.cell 1; have y2 := HX6.out.cell 2; have ly := HX6.out.lt
  simp only [List.getElem?_toArray, List.getElem?_cons_zero, List.getElem?_cons_succ] at y0 y1 y2
  have HO6 := LH (HV.out.below HBX.out)
  have HS6 := LH (show B ≤ w6.heap.size from by have := HBW.out; omega)
  have HN6 := LH (show w5.heap.size ≠ w.heap.size + 1 + 1 from by have := HZN.out; omega)
  clear hs6 hs62
  go_wp2_with (at_builtin; refine OwnL.appendK rbOk HO6.out bo w6.heap.size rfl _ _ rfl rfl rfl #[.bool bo] rfl rfl HS6.out (by have := HL.out; omega) ?_)
  intro v7 w7 ho7 hb7 hk7
  obtain ⟨A7, c7, rfl, -, -⟩ := ho7.form
  have HO7 := LH (show OwnL rbS w7 B (.slice A7 (ro.length + 1) c7) (ro ++ [bo]) from by rw [List.length_append, List.length_singleton] at ho7; exact ho7)
  have HX7 := LH (HX6.out.keptL HO6.out (by decide) hk7)
  have HZ7 := LH (HZ5.out.keptL HO6.out (by decide) hk7)
  have HB7 := LH ((HBX.out.mono HBW.out).trans hb7)
  clear ho7 hb7 hk7 g6 y0 y1 y2 ly
  have y0 := HX7.out.cell 0; have y1 := HX7.out.cell 1; have y2 := HX7.out.cell 2; have ly := HX7.out.lt
  have fy0 := HX7.out.frozen 0; have fy1 := HX7.out.frozen 1; have fy2 := HX7.out.frozen 2
  have fz0 := HZ7.out.frozen 0; have fz1 := HZ7.out.frozen 1; have fz2 := HZ7.out.frozen 2; have lz := HZ7.out.lt
  have z0 := HZ7.out.cell 0; have z1 := HZ7.out.cell 1; have z2 := HZ7.out.cell 2
  simp only [List.getElem?_toArray, List.getElem?_cons_zero, List.getElem?_cons_succ] at z0 z1 z2 y0 y1 y2
  have hny : ¬ w5.heap.size = w.heap.size + 1 + 1 := HN6.out
  have hny2 : ¬ w.heap.size + 1 + 1 = w5.heap.size := fun e => HN6.out e.symm
  go_wp2
  refine bodyPost_ret (v := .tuple #[.agg #[.int .i64 0, .bool false, .slice A7 (ro.length + 1) c7], .bool true]) ?_ rfl ?_
  ·simp [results, Tryd.results47, go_sem, fz0, fz1, fz2, lz, z0, z1, z2, hny, hny2]
  ·refine QkRet.good (a := 0) ?_ HR.out rfl ?_
   ·exact ((((HB7.out.setCell (p := ⟨w5.heap.size, 2, none⟩) (by have := HBW.out; have := HZN.out; show B ≤ w5.heap.size; omega) _).setCell (p := ⟨w.heap.size + 1 + 1, 0, none⟩) (by have := HBW.out; show B ≤ w.heap.size + 1 + 1; omega) _).setCell (p := ⟨w.heap.size + 1 + 1, 1, none⟩) (by have := HBW.out; show B ≤ w.heap.size + 1 + 1; omega) _).setCell (p := ⟨w.heap.size + 1 + 1, 2, none⟩) (by have := HBW.out; show B ≤ w.heap.size + 1 + 1; omega) _)
   ·have hz1 := HZ7.out.far (p := ⟨w5.heap.size, 2, none⟩) (u := .slice A7 (ro.length + 1) c7) (by show w.heap.size + 1 + 1 ≠ w5.heap.size; exact fun e => HN6.out e.symm)
    have hz2 := hz1.set_ 0 (.int .i64 0)
    have hz3 := hz2.set_ 1 (.bool false)
    exact own_row (own_row (own_row (own_row HO7.out HX7.out) hz1) hz2) hz3
theorem rquick_9 (r : Rw) (t : Lt) (w : World) (B : Nat) (v : Value) (hB : B ≤ w.heap.size) (hv : OwnL rbS w B v r.open_) (hl : r.open_.length ≤ 1000000000) (hst : r.at_ ≤ 14) (hk : t.kind = 9) :
  Calls Tryd.prog 47 #[.agg #[.int .i64 (r.at_ : Int), .bool r.signed, v], ltVal t] w (QkRet (rStep r t) B w) := by
 obtain ⟨k, tx, n, a, b⟩ := t
 obtain ⟨A, cap, rfl, hc1, hc2⟩ := hv.form
 obtain ⟨ra, rs, ro⟩ := r
 simp only [] at hv hc1 hl hst hk
 have HV := LH hv; have HBW := LH hB; have HST := LH hst
 have HL := LH hl
 clear hv hl hc2 hB hst
 unfold ltVal
 simp only []
 have HR0 := LH (rStep_9 (t := ⟨k, tx, n, a, b⟩) hk ⟨ra, rs, ro⟩)
 have e8 : (k == 8) = false := by rw [show k = 9 from hk]; rfl
 have e9 : (k == 9) = true := by simpa using hk
 have HK := LH hk
 clear hk
 rcases List.eq_nil_or_concat ro with rfl | ⟨l, x, hro⟩
 ·have HR := LH (show rStep ⟨ra, rs, []⟩ ⟨k, tx, n, a, b⟩ = none from by rw [HR0.out]; split <;> rfl)
  have HLL : ([] : List Bool).length = 0 := rfl
  rw [HLL]
  clear hc1 HLL
  go_enter Tryd.func47, Tryd.ntmps47
  go_wp2
  refine bodyPost_ret (v := .tuple #[.agg #[.int .i64 (ra : Int), .bool rs, .slice A 0 cap], .bool false]) ?_ rfl ?_
  ·simp [results, Tryd.results47, go_sem, World.cell?_alloc_new]
  ·exact QkRet.bad ((below3 _ _ _ _).mono HBW.out) HR.out rfl
 ·rw [List.concat_eq_append] at hro
  subst hro
  have HR := LH (show rStep ⟨ra, rs, l ++ [x]⟩ ⟨k, tx, n, a, b⟩ = if beh9 ⟨ra, rs, l ++ [x]⟩ = true then some ⟨8, x, l⟩ else none from by rw [HR0.out, List.getLast?_concat, List.dropLast_concat])
  have hlen : (l ++ [x]).length = l.length + 1 := by simp
  have hv := HV.out
  rw [hlen] at hc1 hv
  rw [hlen]
  have HVO := LH hv
  obtain ⟨ad, rfl, hab, hac⟩ := at_rb (RdL.of_own hv)
  have HAB := LH hab; have HAC := LH hac
  have hl2 : ((((l.length + 1 : Nat) : Int)) == 0) = false := by simp; omega
  have hcl : ¬ cap = l.length := by omega
  have hll : l.length ≤ 999999999 := by have := HL.out; rw [hlen] at this; omega
  have hl1 : l.length + 1 - l.length = 1 := by omega
  have hcm : cap ≤ maxLen := by
   obtain ⟨_, _, e, _, h⟩ := hv.form
   injection e with _ _ e
   rw [e]; exact h
  have HCM := LH hcm; have HCC := LH (show 1 ≤ cap - l.length from by omega)
  clear hv hab hac hlen HR0 HV hcm
  have HBR := LH ((((Blk.new w 99 #[.int .i64 (ra : Int), .bool rs, .slice (some (ad.add l.length)) 1 (cap - l.length)]).alloc (.cells #[.int .i64 k, .string (str tx), .int .i64 n, .int .i64 a, .int .i64 b] 49)).alloc (.cells #[.int .i64 0, .bool false, .slice none 0 0] 99)))
  have HBT := LH ((Blk.new (w.alloc (.cells #[.int .i64 (ra : Int), .bool rs, .slice (some (ad.add l.length)) 1 (cap - l.length)] 99)) 49 #[.int .i64 k, .string (str tx), .int .i64 n, .int .i64 a, .int .i64 b]).alloc (.cells #[.int .i64 0, .bool false, .slice none 0 0] 99))
  have HBZ := LH (Blk.new ((w.alloc (.cells #[.int .i64 (ra : Int), .bool rs, .slice (some (ad.add l.length)) 1 (cap - l.length)] 99)).alloc (.cells #[.int .i64 k, .string (str tx), .int .i64 n, .int .i64 a, .int .i64 b] 49)) 99 #[.int .i64 0, .bool false, .slice none 0 0])
  have HB3 := LH (below3 w (.cells #[.int .i64 (ra : Int), .bool rs, .slice (some (ad.add l.length)) 1 (cap - l.length)] 99) (.cells #[.int .i64 k, .string (str tx), .int .i64 n, .int .i64 a, .int .i64 b] 49) (.cells #[.int .i64 0, .bool false, .slice none 0 0] 99))
  simp only [World.size_alloc] at HBT HBZ
  go_enter Tryd.func47, Tryd.ntmps47
  go_wp2_with fail
  generalize ((w.alloc (.cells #[.int .i64 (ra : Int), .bool rs, .slice (some (ad.add l.length)) 1 (cap - l.length)] 99)).alloc (.cells #[.int .i64 k, .string (str tx), .int .i64 n, .int .i64 a, .int .i64 b] 49)).alloc (.cells #[.int .i64 0, .bool false, .slice none 0 0] 99) = w3 at *
  have hsz3 := HB3.out.size
  refine (rstep_any _ ⟨ra, rs, [x]⟩ ⟨k, tx, n, a, b⟩ w3 w.heap.size _ ⟨HB3.out.size, rfl, rd_one HAB.out ((HB3.out.cell HAB.out).trans HAC.out) HCC.out (by have := HCM.out; omega)⟩ (by simp) HST.out).mono ?_
  rintro e w5 ⟨hb5, x2, rfl, hX, hx2⟩
  rw [show rStep ⟨ra, rs, [x]⟩ ⟨k, tx, n, a, b⟩ = if beh9 ⟨ra, rs, l ++ [x]⟩ = true then some ⟨8, x, []⟩ else none from rStep_9 (t := ⟨k, tx, n, a, b⟩) HK.out ⟨ra, rs, [x]⟩] at hx2 ⊢
  obtain ⟨a2, s2, A2, n2, c2, rfl⟩ := hX
  have HB5 := LH (HB3.out.trans (hb5.mono HB3.out.size))
  have HZ5 := LH ((HBZ.out.belowW hb5).alloc (.cells #[.int .i64 a2, .bool s2, .slice A2 n2 c2] 99))
  have HBX := LH (HB5.out.alloc HB5.out.size (.cells #[.int .i64 a2, .bool s2, .slice A2 n2 c2] 99))
  have HX6 := LH (Blk.new w5 99 #[.int .i64 a2, .bool s2, .slice A2 n2 c2])
  have HZN := LH (show w.heap.size + 1 + 1 < w5.heap.size from (HBZ.out.belowW hb5).lt)
  have HN6 := LH (show w5.heap.size ≠ w.heap.size + 1 + 1 from by have := HZN.out; omega)
  have HS5 := LH HB5.out.size
  obtain ⟨bb, hbb⟩ : ∃ bb, bb = beh9 ⟨ra, rs, l ++ [x]⟩ := ⟨_, rfl⟩
  have HBB := LH hbb
  have hxx : bb = true → a2 = 8 ∧ s2 = x := by
   intro h
   obtain ⟨v5, hx5, -⟩ := hx2 ⟨8, x, []⟩ (by rw [← hbb, h]; rfl)
   injection hx5 with hx5
   injection hx5 with hx5
   simp only [List.cons.injEq, Value.int.injEq, Value.bool.injEq, true_and, and_true] at hx5
   exact ⟨hx5.1, hx5.2.1⟩
  have HXX := LH hxx
  have hsome : (if beh9 ⟨ra, rs, l ++ [x]⟩ = true then some (Rw.mk 8 x []) else none).isSome = bb := by
   rw [← hbb]; cases bb <;> rfl
  rw [hsome]
  clear hb5 hx2 hxx hbb hsome
  go_upto_region 19 with (fail)
  generalize w5.alloc (.cells #[.int .i64 a2, .bool s2, .slice A2 n2 c2] 99) = w6 at *
  have y0 := HX6.out.cell 0; have y1 := HX6.out.cell 1; have y2 := HX6.out.cell 2; have ly := HX6.out.lt
  have fy0 := HX6.out.frozen 0; have fy1 := HX6.out.frozen 1; have fy2 := HX6.out.frozen 2
  have fz0 := HZ5.out.frozen 0; have fz1 := HZ5.out.frozen 1; have fz2 := HZ5.out.frozen 2; have lz := HZ5.out.lt
  have z0 := HZ5.out.cell 0; have z1 := HZ5.out.cell 1; have z2 := HZ5.out.cell 2
  simp only [List.getElem?_toArray, List.getElem?_cons_zero, List.getElem?_cons_succ] at z0 z1 z2 y0 y1 y2
  have hny : ¬ w5.heap.size = w.heap.size + 1 + 1 := HN6.out
  have hny2 : ¬ w.heap.size + 1 + 1 = w5.heap.size := fun e => HN6.out e.symm
  go_wp2
  refine bodyPost_ret (v := .tuple #[.agg #[.int .i64 a2, .bool s2, .slice (some ad) l.length cap], .bool bb]) ?_ rfl ?_
  ·simp [results, Tryd.results47, go_sem, fz0, fz1, fz2, lz, z0, z1, z2, hny, hny2]
  ·have hBB : Below w.heap.size w ((((w6.setCell ⟨w5.heap.size, 2, none⟩ (.slice (some ad) l.length cap)).setCell ⟨w.heap.size + 1 + 1, 0, none⟩ (.int .i64 a2)).setCell ⟨w.heap.size + 1 + 1, 1, none⟩ (.bool s2)).setCell ⟨w.heap.size + 1 + 1, 2, none⟩ (.slice (some ad) l.length cap)) :=
    store3 (HBX.out.setCell (p := ⟨w5.heap.size, 2, none⟩) HS5.out _) (by omega)
   have HP := HVO.out.pop rbOk
   have HR2 := HR.out
   rw [← HBB.out] at HR2
   cases bb with
   | true =>
    obtain ⟨rfl, rfl⟩ := HXX.out rfl
    exact QkRet.good (a := 8) (hBB.mono HBW.out) HR2 rfl (HP.below hBB)
   | false => exact QkRet.bad (hBB.mono HBW.out) HR2 rfl
theorem rquick_any (r : Rw) (t : Lt) (w : World) (B : Nat) (v : Value) (hB : B ≤ w.heap.size) (hv : OwnL rbS w B v r.open_) (hl : r.open_.length ≤ 1000000000) (hst : r.at_ ≤ 14) :
  Calls Tryd.prog 47 #[.agg #[.int .i64 (r.at_ : Int), .bool r.signed, v], ltVal t] w (QkRet (rStep r t) B w) := by
 by_cases h8 : t.kind = 8
 ·exact rquick_8 r t w B v hB hv hl hst h8
 by_cases h9 : t.kind = 9
 ·exact rquick_9 r t w B v hB hv hl hst h9
 ·exact rquick_ne r t w B v hB hv hl hst ⟨h8, h9⟩
end Go.Proofs.YtcomdkejpaoneaaDoor
end
section
namespace Go.Proofs.YtcomdkejpaoneaaDoor
open Go.RowKit
set_option maxRecDepth 100000
set_option maxHeartbeats 8000000
set_option linter.unusedSimpArgs false
set_option linter.unusedVariables false
theorem Inv.belowL {m : Mc} {pre : List Lt} (h : Inv m pre) : m.below.length ≤ pre.length := by
 by_cases h1 : m.state = 14
 ·obtain ⟨P, C, rfl, hs, hc, _, hb⟩ := h
  rw [hb h1]; exact Nat.zero_le _
 ·have h2 := h.st
  have := h.le (by omega)
  omega
def fltI (r : Sum Mc Nat) : Int := match r with
 | .inl _ => -1
 | .inr i => (i : Int)
structure RowAt (w : World) (g B : Nat) (v : Value) (m : Mc) : Prop where
 blk : Blk w g 99 #[.int .i64 (m.state : Int), .bool m.at_.signed, v]
 own : OwnL rbS w B v m.row.open_
 hg : g < B
 hB : B ≤ w.heap.size
theorem RowAt.alloc {w : World} {g B : Nat} {v : Value} {m : Mc} (h : RowAt w g B v m) (o : Obj) : RowAt (w.alloc o) g B v m := ⟨h.blk.alloc o, h.own.alloc o, h.hg, by rw [World.size_alloc]; have := h.hB; omega⟩
theorem RowAt.set_ {w : World} {g B : Nat} {v v2 : Value} {m m2 : Mc} (h : Blk w g 99 #[.int .i64 (m.state : Int), .bool m.at_.signed, v]) (ho : OwnL rbS w B v2 m2.row.open_) (hg : g < B) (hB : B ≤ w.heap.size) :
  RowAt (((w.setCell ⟨g, 0, none⟩ (.int .i64 (m2.state : Int))).setCell ⟨g, 1, none⟩ (.bool m2.at_.signed)).setCell ⟨g, 2, none⟩ v2) g B v2 m2 :=
 ⟨((h.set_ 0 _).set_ 1 _).set_ 2 _, ((ho.far (p := ⟨g, 0, none⟩) hg _).far (p := ⟨g, 1, none⟩) hg _).far (p := ⟨g, 2, none⟩) hg _, hg, by simp only [set_size]; exact hB⟩
def FltRel (ts : List Lt) (w : World) (iv : Value) (wr : World) : Prop :=
 ∃ (k : Nat) (m : Mc) (v : Value), k ≤ ts.length ∧ iv = .int .i64 (k : Int) ∧ runI mc0 0 ts = runI m k (ts.drop k) ∧ Inv m (ts.take k) ∧ RowAt wr w.heap.size (w.heap.size + 1) v m ∧ Below w.heap.size w wr
theorem fault_any (x : Value) (ts : List Lt) (w : World) (hx : RdL ltS w w.heap.size x ts) (hl : ts.length ≤ 1000000000) :
  Calls Tryd.prog 51 #[x] w fun e w' => e = .returned (.int .i64 (fltI (runI mc0 0 ts))) ∧ Below w.heap.size w w' := by
 obtain ⟨A, cap, rfl, h1, h2⟩ := hx.open_
 have HX := LH hx
 clear hx
 have HM0 := LH (show RowAt (w.alloc (.cells #[.int .i64 0, .bool false, .slice none 0 0] 99)) w.heap.size (w.heap.size + 1) (.slice none 0 0) mc0 from ⟨Blk.new w _ _, OwnL.nil _ _ _, Nat.lt_succ_self _, by rw [World.size_alloc]; omega⟩)
 have HB0 := LH (show Below w.heap.size w (w.alloc (.cells #[.int .i64 0, .bool false, .slice none 0 0] 99)) from (Below.refl _ _).alloc (Nat.le_refl _) _)
 go_enter Tryd.func51, Tryd.ntmps51
 go_wp2
 go_loopw [11] (fun iv wr => FltRel ts w iv wr) (fun iv _ => ts.length - (intOf iv).toNat)
 case atStart => exact ⟨0, mc0, _, Nat.zero_le _, rfl, rfl, inv0, HM0.out, HB0.out⟩
 case round =>
  obtain ⟨k, m, v, hk, rfl, hr, hi, hm, hb⟩ := hrel
  have HR := LH hr; have HI := LH hi; have HM := LH hm; have HB := LH hb
  have HXr := LH (HX.out.below hb)
  have hsz : w.heap.size ≤ wr.heap.size := hb.size
  clear hr hi hm hb
  by_cases hlt : k < ts.length
  ·obtain ⟨a, rfl, hab, q0, q1, q2, q3, q4⟩ := at_lt HXr.out hlt
   have HS := LH (runI_at ts m k k hlt)
   have HTK := LH (show ts.take (k + 1) = ts.take k ++ [ts[k]] from List.take_succ_eq_append_getElem hlt)
   have hlk : m.row.open_.length ≤ 1000000000 := by
    have h1 := HI.out.belowL
    rw [List.length_take] at h1
    show (m.below.map (·.signed)).length ≤ _
    rw [List.length_map]; omega
   generalize htk : ts[k] = t at *
   obtain ⟨tk, tx, tn, ta, te⟩ := t
   simp only [] at q0 q1 q2 q3 q4
   clear htk
   have HLK := LH hlk
   have hwk : IntKind.i64.wrap ((k : Int) + 1) = (k : Int) + 1 := IntWalk.i64_in _ (by omega)
   have r0 := HM.out.blk.cell 0; have r1 := HM.out.blk.cell 1; have r2 := HM.out.blk.cell 2; have lr := HM.out.blk.lt
   simp only [List.getElem?_toArray, List.getElem?_cons_zero, List.getElem?_cons_succ] at r0 r1 r2
   have HMT := LH (HM.out.alloc (.cells #[.int .i64 tk, .string (str tx), .int .i64 tn, .int .i64 ta, .int .i64 te] 49))
   have HBX := LH (HB.out.alloc hsz (.cells #[.int .i64 tk, .string (str tx), .int .i64 tn, .int .i64 ta, .int .i64 te] 49))
   clear hlk
   go_wp2_with fail
   generalize wr.alloc (.cells #[.int .i64 tk, .string (str tx), .int .i64 tn, .int .i64 ta, .int .i64 te] 49) = wt at *
   refine (rquick_any m.row ⟨tk, tx, tn, ta, te⟩ wt (w.heap.size + 1) v HMT.out.hB HMT.out.own HLK.out HI.out.st).mono ?_
   rintro e w5 ⟨hb5, x2, rfl, hX, hx2⟩
   rw [row_step ⟨tk, tx, tn, ta, te⟩ HI.out.st] at hx2 ⊢
   obtain ⟨a2, s2, A2, n2, c2, rfl⟩ := hX
   have HB5 := LH (HBX.out.trans (hb5.mono (Nat.le_succ _)))
   have HR5 := LH (HMT.out.blk.below hb5 (Nat.lt_succ_self _))
   have HS5 := LH (Nat.le_trans HMT.out.hB hb5.size)
   have HBF := LH (HB5.out.alloc HB5.out.size (.cells #[.int .i64 a2, .bool s2, .slice A2 n2 c2] 99))
   clear hb5 r0 r1 r2 lr
   cases hst : stepM m ⟨tk, tx, tn, ta, te⟩ with
   | none =>
    have HRR := LH (show runI mc0 0 ts = .inr k from by rw [HR.out, HS.out, hst])
    clear hx2 hst
    simp only [Option.map_none, Option.isSome_none]
    go_wp2
    go_ret
    exact ⟨by rw [HRR.out]; rfl, HBF.out⟩
   | some m2 =>
    obtain ⟨v2, hx5, ho5⟩ := hx2 m2.row (by rw [hst]; rfl)
    injection hx5 with hx5
    injection hx5 with hx5
    simp only [List.cons.injEq, Value.int.injEq, Value.bool.injEq, true_and, and_true] at hx5
    obtain ⟨hx6, hx7, rfl⟩ := hx5
    obtain rfl : a2 = (m2.state : Int) := hx6
    obtain rfl : s2 = m2.at_.signed := hx7
    have HRR := LH (show runI mc0 0 ts = runI m2 (k + 1) (ts.drop (k + 1)) from by rw [HR.out, HS.out, hst])
    have HI2 := LH (show Inv m2 (ts.take (k + 1)) from by rw [HTK.out]; exact inv_step HI.out hst)
    have HO5 := LH (ho5.alloc (.cells #[.int .i64 (m2.state : Int), .bool m2.at_.signed, .slice A2 n2 c2] 99))
    have HR6 := LH (HR5.out.alloc (.cells #[.int .i64 (m2.state : Int), .bool m2.at_.signed, .slice A2 n2 c2] 99))
    have HN6 := LH (Blk.new w5 99 #[.int .i64 (m2.state : Int), .bool m2.at_.signed, .slice A2 n2 c2])
    have HS6 := LH (show w.heap.size + 1 ≤ (w5.alloc (.cells #[.int .i64 (m2.state : Int), .bool m2.at_.signed, .slice A2 n2 c2] 99)).heap.size from by rw [World.size_alloc]; have := HS5.out; omega)
    clear hx2 hst ho5
    simp only [Option.map_some, Option.isSome_some]
    go_upto_region 6 with (fail)
    generalize w5.alloc (.cells #[.int .i64 (m2.state : Int), .bool m2.at_.signed, .slice A2 n2 c2] 99) = w6 at *
    have y0 := HN6.out.cell 0; have y1 := HN6.out.cell 1; have y2 := HN6.out.cell 2; have ly := HN6.out.lt
    have r0 := HR6.out.cell 0; have r1 := HR6.out.cell 1; have r2 := HR6.out.cell 2; have lr := HR6.out.lt
    have fr0 := HR6.out.frozen 0; have fr1 := HR6.out.frozen 1; have fr2 := HR6.out.frozen 2
    simp only [List.getElem?_toArray, List.getElem?_cons_zero, List.getElem?_cons_succ] at y0 y1 y2 r0 r1 r2
    go_wp2
    go_roundw
    case rel => exact ⟨k + 1, m2, _, by omega, by go_num, HRR.out, HI2.out, RowAt.set_ HR6.out HO5.out (Nat.lt_succ_self _) HS6.out, ((HBF.out.setCell (p := ⟨w.heap.size, 0, none⟩) (Nat.le_refl _) _).setCell (p := ⟨w.heap.size, 1, none⟩) (Nat.le_refl _) _).setCell (p := ⟨w.heap.size, 2, none⟩) (Nat.le_refl _) _⟩
    case measure => simp [intOf]; omega
  ·have hke : k = ts.length := by omega
   have HRR := LH (show runI mc0 0 ts = .inl m from by rw [HR.out, hke, List.drop_length]; rfl)
   clear hke
   go_wp2
   go_ret
   exact ⟨by rw [HRR.out]; rfl, HB.out⟩
end Go.Proofs.YtcomdkejpaoneaaDoor
end
section
namespace Go.Proofs.YtcomdkejpaoneaaDoor
open Go.RowKit
set_option maxRecDepth 100000
set_option maxHeartbeats 8000000
set_option linter.unusedSimpArgs false
set_option linter.unusedVariables false
theorem scan_D {l : List UInt8} {la : List Lx} {m : Mc} (h : scanL l = (la, none)) (hr : runI mc0 0 (la.map Lx.lt) = .inl m) : ∃ A e v, la.map Lx.lt = A ++ [e] ∧ e.kind = 0 ∧ D .list A m.at_.most v := by
 obtain ⟨l0, e, rfl, he⟩ := scanF_end h
 have h1 := hr
 rw [List.map_append, List.map_cons, List.map_nil] at h1
 exact run_D (runI_inv inv0 hr) (runI_last inv0 he h1)
def ScdRet (l : List UInt8) (w : World) (e : Ending) (w' : World) : Prop :=
 Below w.heap.size w w' ∧ match scanL l with
  | (_, some p) => e = .returned (.tuple #[.slice none 0 0, .int .i64 (p : Int), .int .i64 16])
  | (la, none) => match runI mc0 0 (la.map Lx.lt) with
   | .inl _ => ∃ sl, e = .returned (.tuple #[sl, .int .i64 0, .int .i64 0]) ∧ OwnL ltS w' w.heap.size sl (la.map Lx.lt)
   | .inr i => e = .returned (.tuple #[.slice none 0 0, .int .i64 (((la[i]?.map Lx.at_).getD 0 : Nat) : Int), .int .i64 16])
theorem rscanned_any (s : ByteArray) (w : World) (hs : s.size ≤ 10000000) :
  Calls Tryd.prog 31 #[.string s] w (ScdRet s.data.toList w) := by
 have HSC := LH (ScanR_any s w hs)
 have hcnt := scanL_count s.data.toList
 have hsl : s.data.toList.length = s.size := by rw [Array.length_toList]; rfl
 rw [hsl] at hcnt
 go_enter Tryd.func31, Tryd.ntmps31
 go_wp2_with fail
 refine HSC.out.mono ?_
 rintro e w2 ⟨hb2, sl, ho, rfl⟩
 cases hr : scanL s.data.toList with
 | mk la r =>
  rw [hr] at ho hcnt
  simp only [] at ho hcnt ⊢
  obtain ⟨A, cap, rfl, h1, h2, -⟩ := ho.open_
  have HB2 := LH hb2
  have hsz2 : w.heap.size ≤ w2.heap.size := hb2.size
  have HQ := LH hr
  cases r with
  | some p =>
   clear hr hb2 ho
   simp only [Option.getD_some, Option.isSome_some, if_true]
   go_wp2
   go_ret3
   refine ⟨HB2.out, ?_⟩
   rw [HQ.out]
   first | exact rfl | (show _ = _; simp [go_sem])
  | none =>
   have HO := LH (show OwnL ltS w2 w.heap.size (.slice A la.length cap) (la.map Lx.lt) from ho.lt)
   have hrd : RdL ltS w2 w2.heap.size (.slice A la.length cap) (la.map Lx.lt) := RdL.of_own ho.lt
   have HRD := LH hrd
   have HFL := LH (fault_any (.slice A la.length cap) (la.map Lx.lt) w2 hrd (by rw [List.length_map]; omega))
   clear hr hb2 ho hrd
   simp only [Option.getD_none, Option.isSome_none, Bool.false_eq_true, if_false]
   go_wp2_with fail
   refine HFL.out.mono ?_
   rintro e w3 ⟨rfl, hb3⟩
   have HB3 := LH (HB2.out.trans (hb3.mono hsz2))
   have HRD3 := LH (HRD.out.below hb3)
   have HO3 := LH (HO.out.below hb3)
   cases hrn : runI mc0 0 (la.map Lx.lt) with
   | inl m =>
    have HRN := LH hrn
    clear hrn hb3
    simp only [fltI]
    go_wp2
    go_ret3
    refine ⟨HB3.out, ?_⟩
    rw [HQ.out]
    simp only []
    rw [HRN.out]
    exact ⟨_, rfl, HO3.out⟩
   | inr i =>
    have HRN := LH hrn
    have hi : i < la.length := by
     have := runI_lt hrn
     rw [List.length_map] at this; omega
    obtain ⟨a, rfl, hab, q0, q1, q2, q3, q4⟩ := at_lt HRD3.out (k := i) (by rw [List.length_map]; exact hi)
    have q3' : w3.cell? ⟨(a.add (i * 5)).block, (a.add (i * 5)).off + 3, none⟩ = some (.int .i64 ((la[i].at_ : Nat) : Int)) := by
     rw [q3, List.getElem_map]; rfl
    have HAT := LH (show (la[i]?.map Lx.at_).getD 0 = la[i].at_ from by rw [List.getElem?_eq_getElem hi]; rfl)
    clear hrn hb3 q0 q1 q2 q3 q4
    simp only [fltI]
    go_wp2
    go_region
    go_wp2
    go_ret3
    refine ⟨?_, ?_⟩
    ·first | exact HB3.out | exact HB3.out.drew
    ·rw [HQ.out]
     simp only []
     rw [HRN.out]
     simp only []
     rw [HAT.out]
     first | exact rfl | (show _ = _; simp [go_sem])
end Go.Proofs.YtcomdkejpaoneaaDoor
end
