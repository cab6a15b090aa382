/- Merged for a claim by shake.py: Tn -/
import Derived.Test.YtcomdkejpaoneaaDoorKfA
import Derived.Deep.OwnRows
import Derived.Test.YtcomdkejpaoneaaDoorKf17
import Derived.Test.YtcomdkejpaoneaaDoorKf31
section
namespace Go.Proofs.YtcomdkejpaoneaaDoor
open Go.RowKit
set_option maxRecDepth 100000
set_option maxHeartbeats 8000000
set_option linter.unusedSimpArgs false
set_option linter.unusedVariables false
theorem rsuf_hi (x : Value) (ts : List Lt) (i : Nat) (w : World) (hx : RdL ltS w w.heap.size x ts) (hi : ts.length < i) (hl : i ≤ 1000000000) :
  Calls Tryd.prog 53 #[x, .int .i64 (i : Int)] w fun e w' => e = .returned (.int .i64 (sfxS (ts.drop i) : Nat)) ∧ w' = w := by
 obtain ⟨A, cap, rfl, h1, h2⟩ := hx.open_
 have HS := LH (show sfxS (ts.drop i) = 0 from by rw [List.drop_eq_nil_of_le (by omega)]; rfl)
 have e1 : decide (i < ts.length) = false := by simp; omega
 rw [HS.out]
 clear hx
 go_enter Tryd.func53, Tryd.ntmps53
 go_wp2
 go_loopw [1, 5] (fun iv cv wr => wr = w ∧ iv = .int .i64 (i : Int) ∧ cv = .int .i64 0) (fun iv _ _ => 0)
 case atStart => exact ⟨rfl, rfl, rfl⟩
 case round =>
  obtain ⟨rfl, rfl, rfl⟩ := hrel
  go_wp2
  go_ret
  exact ⟨rfl, rfl⟩
theorem rsuf_all (x : Value) (ts : List Lt) (i : Nat) (w : World) (hx : RdL ltS w w.heap.size x ts) (hi : i ≤ 1000000000) (hl : ts.length ≤ 1000000000) :
  Calls Tryd.prog 53 #[x, .int .i64 (i : Int)] w fun e w' => e = .returned (.int .i64 (sfxS (ts.drop i) : Nat)) ∧ w' = w := by
 by_cases h : i ≤ ts.length
 ·exact rsuf_any x ts i w hx h hl
 ·exact rsuf_hi x ts i w hx (by omega) hi
theorem folS_cells (l : List Int) : folS.cells l = l.map (Value.int .i64) := by
 induction l with
 | nil => rfl
 | cons x l ih =>
  have e : folS.cells (x :: l) = .int .i64 x :: folS.cells l := rfl
  rw [e, ih]; rfl
theorem OwnL.storeI {w : World} {B g n cap k : Nat} {l : List Int} {x : Int} (h : OwnL folS w B (.slice (some ⟨g, 0, none⟩) n cap) l) (hk : k < l.length) : OwnL folS (w.setCell ⟨g, k, none⟩ (.int .i64 x)) B (.slice (some ⟨g, 0, none⟩) n cap) (l.set k x) := by
 have hl := Shape.cells_length folOk l
 rcases h.2 with ⟨e, _⟩ | ⟨g', cap', cur, hv, hg, hh, hn, hm, hs, ht⟩
 ·cases e
 ·injection hv with e1 e2 e3
  injection e1 with e1
  injection e1 with e1 _ _
  subst e1 e2 e3
  unfold OwnL
  rw [List.length_set]
  refine ⟨by rw [folS_cells, List.length_map, List.length_set]; exact (Nat.mul_one _).symm, .inr ⟨g, cap, cur.setIfInBounds k (.int .i64 x), rfl, hg, ?_, hn, hm, by rw [Array.size_setIfInBounds]; exact hs, ?_⟩⟩
  ·simp [World.setCell, Array.getElem?_modify, hh]
  ·have e1 : folS.size = 1 := rfl
   rw [e1, Nat.mul_one] at ht ⊢
   rw [folS_cells] at ht ⊢
   rw [Array.toList_setIfInBounds, List.take_set, ht, List.map_set]
theorem OwnL.mkI {w : World} {B : Nat} {n : Nat} (hB : B ≤ w.heap.size) (hn : n ≤ 1000000000) : OwnL folS (w.alloc (.cells (madeCells #[.int .i64 0] n) 3)) B (.slice (some ⟨w.heap.size, 0, none⟩) n n) ((List.range n).map fun _ => (0 : Int)) := by
 have h := World.ownsRow_lit (base := B) w (e := 3) (size := 1) (madeCells #[.int .i64 0] n) n hB (by unfold maxLen; omega) (by rw [size_madeCells]; omega)
 have e : (madeCells #[Value.int .i64 0] n).toList = ((List.range n).map fun _ => (0 : Int)).map (Value.int .i64) := by
  rw [toList_madeCells_one]
  simp [List.map_const', List.map_replicate]
 rw [e] at h
 unfold OwnL
 rw [folS_cells, List.length_map, List.length_range]
 exact h
def outL (out : Nat → Nat) (n : Nat) : List Int := (List.range n).map fun i => (out i : Int)
theorem outL_len (out : Nat → Nat) (n : Nat) : (outL out n).length = n := by unfold outL; rw [List.length_map, List.length_range]
theorem outL_upd (out : Nat → Nat) (n i k : Nat) : outL (upd out i k) n = (outL out n).set i (k : Int) := by
 unfold outL
 apply List.ext_getElem
 ·simp
 ·intro j h1 h2
  rw [List.getElem_set]
  simp only [List.getElem_map, List.getElem_range, upd]
  by_cases h : j = i
  ·subst h; rw [if_pos rfl, if_pos rfl]
  ·rw [if_neg h, if_neg (fun e => h e.symm)]
def stL (st : List Nat) : List Int := st.map fun i : Nat => (i : Int)
theorem closeL_bound {k N : Nat} {st st' : List Nat} {out out' : Nat → Nat} {a : List Lt} (h : closeL k st out a = some (st', out')) (ho : ∀ i, out i ≤ N) (hk : k + a.length ≤ N) : ∀ i, out' i ≤ N := by
 induction a generalizing k st out with
 | nil => rw [closeL] at h; cases h; exact ho
 | cons t a ih =>
  rw [closeL] at h
  rw [List.length_cons] at hk
  split at h
  ·exact ih h ho (by omega)
  split at h
  ·split at h
   ·cases h
   ·refine ih h (fun i => ?_) (by omega)
    unfold upd
    split
    ·omega
    ·exact ho i
  ·exact ih h ho (by omega)
def ClsRel (ts : List Lt) (w : World) (st' : List Nat) (out' : Nat → Nat) (ov iv : Value) (wr : World) : Prop :=
 ∃ (k : Nat) (st : List Nat) (out : Nat → Nat), k ≤ ts.length ∧ iv = .int .i64 (k : Int) ∧ closeL k st out (ts.drop k) = some (st', out') ∧ (∀ i ∈ st, i < k) ∧ st.length ≤ k ∧
  OwnL folS wr (w.heap.size + 1) ov (stL st) ∧ OwnL folS wr w.heap.size (.slice (some ⟨w.heap.size, 0, none⟩) ts.length ts.length) (outL out ts.length) ∧ Below w.heap.size w wr
theorem rcloses_any (x : Value) (ts : List Lt) (w : World) (hx : RdL ltS w w.heap.size x ts) (hl : ts.length ≤ 1000000000) (st' : List Nat) (out' : Nat → Nat) (h0 : closeL 0 [] (fun _ => 0) ts = some (st', out')) :
  Calls Tryd.prog 52 #[x] w fun e w' => Below w.heap.size w w' ∧ ∃ sl, e = .returned sl ∧ OwnL folS w' w.heap.size sl (outL out' ts.length) := by
 obtain ⟨A, cap, rfl, h1, h2⟩ := hx.open_
 have HX := LH hx
 have HC0 := LH h0
 clear hx h0
 have hmk := fun W => run_make_row' (P := Tryd.prog) 33 3 (.int .i64 0) 8 Tryd.underlying33 folOk.info rfl .i64 .i64 ts.length (by omega) (by omega) W
 have HMI := LH (OwnL.mkI (w := w) (B := w.heap.size) (n := ts.length) (Nat.le_refl _) hl)
 have HB1 := LH (show Below w.heap.size w (w.alloc (.cells (madeCells #[.int .i64 0] ts.length) 3)) from (Below.refl _ _).alloc (Nat.le_refl _) _)
 have HW1 := LH (show (w.alloc (.cells (madeCells #[.int .i64 0] ts.length) 3)).heap.size = w.heap.size + 1 from World.size_alloc _ _)
 go_enter Tryd.func52, Tryd.ntmps52
 go_upto_region 2 with (fail)
 clear hmk
 generalize w.alloc (.cells (madeCells #[.int .i64 0] ts.length) 3) = w1 at *
 have HO1 := LH (OwnL.lit0 folS w1 (Nat.le_of_eq HW1.out.symm))
 have HB2 := LH (HB1.out.alloc HB1.out.size (.cells #[] 3))
 have HMI2 := LH (HMI.out.alloc (.cells #[] 3))
 go_wp2
 go_loopw [4, 14] (fun ov iv wr => ClsRel ts w st' out' ov iv wr) (fun _ iv _ => ts.length - (intOf iv).toNat)
 case atStart => exact ⟨0, [], fun _ => 0, Nat.zero_le _, rfl, HC0.out, (fun _ h => absurd h List.not_mem_nil), Nat.le_refl _, HO1.out, HMI2.out, HB2.out⟩
 case round =>
  obtain ⟨k, st, out, hk, rfl, hc, hst, hsl, ho, hou, hb⟩ := hrel
  have HC := LH hc; have HST := LH hst; have HU := LH hou; have HB := LH hb
  have HXr := LH (HX.out.below hb)
  have hsz : w.heap.size ≤ wr.heap.size := hb.size
  have hlen : (stL st).length = st.length := by unfold stL; rw [List.length_map]
  obtain ⟨A2, cap2, rfl, hcp, hcm⟩ := ho.form
  rw [hlen] at hcp ho ⊢
  have HLEN := LH hlen
  have HO := LH ho
  have hwk : IntKind.i64.wrap ((k : Int) + 1) = (k : Int) + 1 := IntWalk.i64_in _ (by omega)
  have HS1 := LH (show w.heap.size + 1 ≤ wr.heap.size from by
   have h := World.ownsRow.lt hou w.heap.size rfl
   omega)
  clear hc hst ho hou hb hlen
  by_cases hlt : k < ts.length
  ·obtain ⟨a, rfl, hab, q0, q1, q2, q3, q4⟩ := at_lt HXr.out hlt
   have HD := LH (List.drop_eq_getElem_cons hlt)
   have HCE := LH (show closeL k st out (ts[k] :: ts.drop (k + 1)) = some (st', out') from by rw [← HD.out]; exact HC.out)
   generalize htk : ts[k] = t at *
   obtain ⟨tk, tx, tn, ta, te⟩ := t
   simp only [] at q0 q1 q2 q3 q4
   clear htk
   have HBT := LH (HB.out.alloc hsz (.cells #[.int .i64 tk, .string (str tx), .int .i64 tn, .int .i64 ta, .int .i64 te] 49))
   have HOT := LH (HO.out.alloc (.cells #[.int .i64 tk, .string (str tx), .int .i64 tn, .int .i64 ta, .int .i64 te] 49))
   have HUT := LH (HU.out.alloc (.cells #[.int .i64 tk, .string (str tx), .int .i64 tn, .int .i64 ta, .int .i64 te] 49))
   have HTT := LH (Blk.new wr 49 #[.int .i64 tk, .string (str tx), .int .i64 tn, .int .i64 ta, .int .i64 te])
   have HST1 := LH (show w.heap.size + 1 ≤ (wr.alloc (.cells #[.int .i64 tk, .string (str tx), .int .i64 tn, .int .i64 ta, .int .i64 te] 49)).heap.size from by rw [World.size_alloc]; have := HS1.out; omega)
   by_cases h8 : tk = 8
   ·have e8 : (tk == 8) = true := by simpa using h8
    have HN := LH (show closeL (k + 1) (st ++ [k]) out (ts.drop (k + 1)) = some (st', out') from by have h := HCE.out; rw [closeL, if_pos h8] at h; exact h)
    clear h8
    go_upto_region 6 with (fail)
    generalize wr.alloc (.cells #[.int .i64 tk, .string (str tx), .int .i64 tn, .int .i64 ta, .int .i64 te] 49) = wt at *
    have t0 := HTT.out.cell 0
    simp only [List.getElem?_toArray, List.getElem?_cons_zero, List.getElem?_cons_succ] at t0
    go_wp2_with (at_builtin; refine OwnL.appendK folOk HOT.out (k : Int) wt.heap.size rfl _ _ rfl rfl rfl _ rfl rfl HST1.out (by rw [HLEN.out]; omega) ?_)
    intro v7 w7 ho7 hb7 hk7
    have HO7 := LH ho7
    have HB7 := LH (HBT.out.trans (hb7.mono (Nat.le_succ _)))
    have HU7 := LH (HUT.out.keptNe hk7 (fun g hg e => by
     have h := World.ownsRow.lt HOT.out g e
     have : g = w.heap.size := by injection hg with hg; exact hg.symm
     omega))
    clear ho7 hb7 hk7
    go_wp2
    go_roundw
    case rel => exact ⟨k + 1, st ++ [k], out, by omega, by go_num, HN.out, (fun i hi => by rcases List.mem_append.1 hi with hi | hi; (have := HST.out i hi; omega); (rw [List.mem_singleton.1 hi]; omega)), by rw [List.length_append, List.length_singleton]; omega, by unfold stL; rw [List.map_append]; exact HO7.out, HU7.out, HB7.out⟩
    case measure => simp [intOf]; omega
   have e8 : (tk == 8) = false := by simpa using h8
   by_cases h9 : tk = 9
   ·have e9 : (tk == 9) = true := by simpa using h9
    rcases List.eq_nil_or_concat st with rfl | ⟨s0, i, hs0⟩
    ·have h := HCE.out
     rw [closeL, if_neg h8, if_pos h9] at h
     cases h
    ·rw [List.concat_eq_append] at hs0
     subst hs0
     have HN := LH (show closeL (k + 1) s0 (upd out i k) (ts.drop (k + 1)) = some (st', out') from by
      have h := HCE.out
      rw [closeL, if_neg h8, if_pos h9, List.getLast?_concat] at h
      simp only [List.dropLast_concat] at h
      exact h)
     have hi := HST.out i (by simp)
     have hik : i < ts.length := by omega
     have hln : (s0 ++ [i]).length = s0.length + 1 := by simp
     rw [hln] at hcp hsl ⊢
     have HOS := LH (show OwnL folS (wr.alloc (.cells #[.int .i64 tk, .string (str tx), .int .i64 tn, .int .i64 ta, .int .i64 te] 49)) (w.heap.size + 1) (.slice A2 (s0.length + 1) cap2) (stL s0 ++ [(i : Int)]) from by have h := HOT.out; rw [hln] at h; unfold stL at h ⊢; rw [List.map_append] at h; exact h)
     obtain ⟨g2, rfl, hg2⟩ := OwnL.at_ HOS.out folOk (k := s0.length) (by simp [stL])
     have hc2 := hg2 0 (.int .i64 (i : Int)) (by decide) (by simp [stL, folS])
     have e1 : s0.length * folS.size + 0 = s0.length := by show s0.length * 1 + 0 = _; omega
     rw [e1] at hc2
     have HG2 := LH (World.ownsRow.lt HOS.out g2 rfl)
     have hgt : ¬ g2 = wr.heap.size := by have := HG2.out.1; have h := World.ownsRow.lt HO.out g2 rfl; omega
     clear h8 h9 hg2 hln e1
     go_upto_region 6 with (fail)
     have hc2' : (wr.alloc (.cells #[.int .i64 tk, .string (str tx), .int .i64 tn, .int .i64 ta, .int .i64 te] 49)).cell? ⟨g2, s0.length, none⟩ = some (.int .i64 (i : Int)) := hc2
     generalize wr.alloc (.cells #[.int .i64 tk, .string (str tx), .int .i64 tn, .int .i64 ta, .int .i64 te] 49) = wt at *
     have t0 := HTT.out.cell 0
     simp only [List.getElem?_toArray, List.getElem?_cons_zero, List.getElem?_cons_succ] at t0
     have hfz : wt.frozen? ⟨w.heap.size, i, none⟩ = false := by
      rcases HUT.out.2 with ⟨e, _⟩ | ⟨g', cap', cur, hv, hg, hh, _⟩
      ·cases e
      ·injection hv with e1 _ _
       injection e1 with e1
       injection e1 with e1 _ _
       subst e1
       simp [World.frozen?, hh]
     have hcl : ∃ u, wt.cell? ⟨w.heap.size, i, none⟩ = some u := by
      obtain ⟨g', hg', hcc⟩ := OwnL.at_ HUT.out folOk (k := i) (by rw [outL_len]; exact hik)
      injection hg' with hg'
      injection hg' with hg' _ _
      subst hg'
      have := hcc 0 _ (by decide) rfl
      rw [show i * folS.size + 0 = i from by show i * 1 + 0 = _; omega] at this
      exact ⟨_, this⟩
     obtain ⟨u0, hu0⟩ := hcl
     clear hc2
     have HP := LH (show OwnL folS wt (w.heap.size + 1) (.slice (some ⟨g2, 0, none⟩) s0.length cap2) (stL s0) from by
      have h := HOS.out.pop folOk
      have hsl0 : (stL s0).length = s0.length := by unfold stL; rw [List.length_map]
      rw [hsl0] at h; exact h)
     have HU2 := LH (HUT.out.storeI (k := i) (x := (k : Int)) (by rw [outL_len]; exact hik))
     go_wp2
     go_roundw
     case rel => exact ⟨k + 1, s0, upd out i k, by omega, by go_num, HN.out, (fun j hj => by have := HST.out j (List.mem_append_left _ hj); omega), by omega, HP.out.far (p := ⟨w.heap.size, i, none⟩) (Nat.lt_succ_self _) _, by rw [outL_upd]; exact HU2.out, HBT.out.setCell (p := ⟨w.heap.size, i, none⟩) (Nat.le_refl _) _⟩
     case measure => simp [intOf]; omega
   have e9 : (tk == 9) = false := by simpa using h9
   have HN := LH (show closeL (k + 1) st out (ts.drop (k + 1)) = some (st', out') from by have h := HCE.out; rw [closeL, if_neg h8, if_neg h9] at h; exact h)
   clear h8 h9
   go_upto_region 6 with (fail)
   generalize wr.alloc (.cells #[.int .i64 tk, .string (str tx), .int .i64 tn, .int .i64 ta, .int .i64 te] 49) = wt at *
   have t0 := HTT.out.cell 0
   simp only [List.getElem?_toArray, List.getElem?_cons_zero, List.getElem?_cons_succ] at t0
   go_wp2
   go_roundw
   case rel => exact ⟨k + 1, st, out, by omega, by go_num, HN.out, (fun i hi => by have := HST.out i hi; omega), by omega, HOT.out, HUT.out, HBT.out⟩
   case measure => simp [intOf]; omega
  ·have hke : k = ts.length := by omega
   have HE := LH (show out = out' from by have h := HC.out; rw [hke, List.drop_length, closeL] at h; cases h; rfl)
   clear hke
   go_wp2
   go_ret
   exact ⟨HB.out, _, rfl, by rw [← HE.out]; exact HU.out⟩
end Go.Proofs.YtcomdkejpaoneaaDoor
end
