/- Merged for a claim by shake.py: Mr Ms Mt Ua Ub -/
import Derived.Deep.RegionLaw
import Derived.Test.YtcomdkejpaoneaaDoorKg1
import Derived.Test.YtcomdkejpaoneaaDoorKg16
section
namespace Go.Proofs.YtcomdkejpaoneaaDoor
open Go.RowKit
set_option maxRecDepth 100000
set_option maxHeartbeats 4000000
set_option linter.unusedSimpArgs false
set_option linter.unusedVariables false
theorem copy_any (w : World) (B mb : Nat) (v : Value) (m : Mc) (h : McAt w B mb v m) (hl : m.below.length ≤ 1000000000) :
    Calls Tryd.prog 75 #[.pointer (some ⟨mb, 0, none⟩)] w fun e w' => Below w.heap.size w w' ∧ ∃ g v', e = .returned (.pointer (some ⟨g, 0, none⟩)) ∧ McAt w' w.heap.size g v' m := by
  have hrd := RdL.of_own h.own
  obtain ⟨A, cap, rfl, hc1, hc2⟩ := h.own.form
  obtain ⟨-, ⟨f0, f1, f2, f3, f4, f5⟩, hlt⟩ := h.facts
  obtain ⟨⟨c0, c1, c2, c3, c4, c5⟩, -, -⟩ := h.facts
  have hw1 : w.heap.size ≤ (w.alloc (.cells #[.int .i64 (m.state : Int), .int .i64 (m.nest : Int), .int .i64 (m.at_.most : Int), .int .i64 (m.at_.nots : Int), .bool m.at_.signed, .slice A m.below.length cap] 67)).heap.size := by rw [World.size_alloc]; omega
  have HW1 := Lib.hid hw1
  have HRD := Lib.hid (((hrd.alloc (Nat.le_refl _) (.cells #[.int .i64 (m.state : Int), .int .i64 (m.nest : Int), .int .i64 (m.at_.most : Int), .int .i64 (m.at_.nots : Int), .bool m.at_.signed, .slice A m.below.length cap] 67)).more hw1).alloc (Nat.le_refl _) (.cells #[] 64))
  have hs1 : (w.alloc (.cells #[.int .i64 (m.state : Int), .int .i64 (m.nest : Int), .int .i64 (m.at_.most : Int), .int .i64 (m.at_.nots : Int), .bool m.at_.signed, .slice A m.below.length cap] 67)).heap.size = w.heap.size + 1 := World.size_alloc _ _
  have ho := OwnL.lit0 levS (w.alloc (.cells #[.int .i64 (m.state : Int), .int .i64 (m.nest : Int), .int .i64 (m.at_.most : Int), .int .i64 (m.at_.nots : Int), .bool m.at_.signed, .slice A m.below.length cap] 67)) (Nat.le_refl _)
  rw [hs1] at ho
  have HO := Lib.hid ho
  have HS1 := Lib.hid hs1
  clear ho hs1
  have HG := Lib.hid ((Blk.new w 67 #[.int .i64 (m.state : Int), .int .i64 (m.nest : Int), .int .i64 (m.at_.most : Int), .int .i64 (m.at_.nots : Int), .bool m.at_.signed, .slice A m.below.length cap]).alloc (.cells #[] 64))
  have HBW := Lib.hid (((Below.refl w.heap.size w).alloc (Nat.le_refl _) (.cells #[.int .i64 (m.state : Int), .int .i64 (m.nest : Int), .int .i64 (m.at_.most : Int), .int .i64 (m.at_.nots : Int), .bool m.at_.signed, .slice A m.below.length cap] 67)).alloc hw1 (.cells #[] 64))
  clear hrd h hw1
  go_enter Tryd.func75, Tryd.ntmps75
  go_wp2_with (at_builtin; refine OwnL.appendRd levOk HO.out HRD.out rfl _ _ rfl rfl rfl (by rw [World.size_alloc, World.size_alloc]; omega) (by simp; omega) ?_)
  intro v3 w3 ho3 hb3
  obtain ⟨A3, cp3, rfl, -, -, -⟩ := ho3.open_
  have HO3 := Lib.hid ho3; have HB3 := Lib.hid (HBW.out.trans (hb3.mono (Nat.le_succ _)))
  have HG3 := Lib.hid (HG.out.below hb3 (Nat.lt_succ_self _))
  have hz := HG3.out.lt
  have hfz := HG3.out.frozen 5
  have hcz := HG3.out.cell 5
  clear ho3 hb3
  simp only [List.getElem?_toArray, List.getElem?_cons_zero, List.getElem?_cons_succ] at hcz
  go_wp2
  go_ret
  refine ⟨HB3.out.setCell (p := ⟨w.heap.size, 5, none⟩) (Nat.le_refl _) _, w.heap.size, _, rfl, HG3.out.set_ 5 _, ?_, by rw [set_size]; omega, Nat.le_refl _⟩
  exact (HO3.out.far (p := ⟨w.heap.size, 5, none⟩) (Nat.lt_succ_self _) _).more (Nat.le_succ _)
end Go.Proofs.YtcomdkejpaoneaaDoor
end
section
namespace Go.Proofs.YtcomdkejpaoneaaDoor
open Go.RowKit
set_option maxRecDepth 100000
set_option maxHeartbeats 4000000
set_option linter.unusedSimpArgs false
set_option linter.unusedVariables false
def anyT (i : Nat) (k : Int) : Lt := if i = 0 then ⟨k, [42], 1, 0, 0⟩ else ⟨k, [97, 42], 0, 0, 0⟩
def anyM (m : Mc) (k : Int) : Bool := (stepM m (anyT 0 k)).isSome || (stepM m (anyT 1 k)).isSome
def anyCells (k : Int) : Array Value := #[.int .i64 k, .string ⟨#[42]⟩, .int .i64 1, .int .i64 0, .int .i64 0, .int .i64 k, .string ⟨#[97, 42]⟩, .int .i64 0, .int .i64 0, .int .i64 0]
def AnyRel (m : Mc) (k : Int) (w : World) (iv : Value) (wr : World) : Prop :=
  ∃ i : Nat, i ≤ 2 ∧ iv = .int .i64 (i : Int) ∧ (∀ j, j < i → stepM m (anyT j k) = none) ∧ Below w.heap.size w wr ∧ Blk wr w.heap.size 49 (anyCells k)
theorem mcany_any (w : World) (B mb : Nat) (v : Value) (m : Mc) (pre : List Lt) (k : Int) (h : McAt w B mb v m) (hi : Inv m pre) (hl : pre.length ≤ 1000000000) (hlb : m.below.length ≤ 1000000000) :
    Calls Tryd.prog 46 #[.pointer (some ⟨mb, 0, none⟩), .int .i64 k] w fun e w' => e = .returned (.bool (anyM m k)) ∧ Below w.heap.size w w' := by
  have H := Lib.hid h
  have HI := Lib.hid hi
  clear h hi
  go_enter Tryd.func46, Tryd.ntmps46
  go_wp2
  go_loopw [13] (fun iv wr => AnyRel m k w iv wr) (fun iv _ => 2 - (intOf iv).toNat)
  case atStart => exact ⟨0, by omega, rfl, fun j hj => absurd hj (Nat.not_lt_zero _), (Below.refl _ _).alloc (Nat.le_refl _) _, Blk.new w _ _⟩
  case round =>
    obtain ⟨i, hi2, rfl, hno, hb, ht⟩ := hrel
    have HNO := Lib.hid hno; have HB := Lib.hid hb; have HT := Lib.hid ht
    have HMr := Lib.hid (H.out.below hb)
    have hsz : w.heap.size ≤ wr.heap.size := hb.size
    have hcl := fun j => ht.cell j
    have hlt0 := ht.lt
    clear hno hb ht
    have hi3 : i = 0 ∨ i = 1 ∨ i = 2 := by omega
    rcases hi3 with rfl | rfl | rfl
    · have c0 := hcl 0; have c1 := hcl 1; have c2 := hcl 2; have c3 := hcl 3; have c4 := hcl 4
      simp only [anyCells, List.getElem?_toArray, List.getElem?_cons_zero, List.getElem?_cons_succ] at c0 c1 c2 c3 c4
      clear hcl
      have HX := Lib.hid (HB.out.alloc hsz (.cells #[.int .i64 k, .string ⟨#[42]⟩, .int .i64 1, .int .i64 0, .int .i64 0] 49))
      have HT2 := Lib.hid (HT.out.alloc (.cells #[.int .i64 k, .string ⟨#[42]⟩, .int .i64 1, .int .i64 0, .int .i64 0] 49))
      have HM2 := Lib.hid (HMr.out.alloc (.cells #[.int .i64 k, .string ⟨#[42]⟩, .int .i64 1, .int .i64 0, .int .i64 0] 49))
      have HK2 := Lib.hid (Blk.new wr 49 #[.int .i64 k, .string ⟨#[42]⟩, .int .i64 1, .int .i64 0, .int .i64 0])
      go_upto_if 4 with (fail)
      generalize wr.alloc (.cells #[.int .i64 k, .string ⟨#[42]⟩, .int .i64 1, .int .i64 0, .int .i64 0] 49) = w2 at *
      have k0 := HK2.out.cell 0; have k1 := HK2.out.cell 1; have k2 := HK2.out.cell 2; have k3 := HK2.out.cell 3; have k4 := HK2.out.cell 4; have kz := HK2.out.lt
      simp only [List.getElem?_toArray, List.getElem?_cons_zero, List.getElem?_cons_succ] at k0 k1 k2 k3 k4
      have hsz2 : w.heap.size ≤ w2.heap.size := HX.out.size
      have HCP := Lib.hid (fun (W : World) (hW : Below w2.heap.size w2 W) => (copy_any W B mb v m (HM2.out.below hW) hlb).mono (fun e W' h => show ∃ g v5, e = .returned (.pointer (some ⟨g, 0, none⟩)) ∧ Below w2.heap.size w2 W' ∧ McAt W' w2.heap.size g v5 m ∧ W'.cell? ⟨wr.heap.size, 0, none⟩ = some (.int .i64 k) ∧ W'.cell? ⟨wr.heap.size, 1, none⟩ = some ((.string ⟨#[42]⟩)) ∧ W'.cell? ⟨wr.heap.size, 2, none⟩ = some (.int .i64 1) ∧ W'.cell? ⟨wr.heap.size, 3, none⟩ = some (.int .i64 0) ∧ W'.cell? ⟨wr.heap.size, 4, none⟩ = some (.int .i64 0) from by
        obtain ⟨h1, g, v5, h2, h3⟩ := h
        have hZ : Below w2.heap.size w2 W' := hW.trans (h1.mono hW.size)
        exact ⟨g, v5, h2, hZ, ⟨h3.blk, h3.own.more hW.size, Nat.le_trans hW.size h3.hB, Nat.le_trans hW.size h3.hm⟩, (hZ.cell (p := ⟨wr.heap.size, 0, none⟩) kz).trans k0, (hZ.cell (p := ⟨wr.heap.size, 1, none⟩) kz).trans k1, (hZ.cell (p := ⟨wr.heap.size, 2, none⟩) kz).trans k2, (hZ.cell (p := ⟨wr.heap.size, 3, none⟩) kz).trans k3, (hZ.cell (p := ⟨wr.heap.size, 4, none⟩) kz).trans k4⟩))
      obtain ⟨bv, hbv⟩ : ∃ bv, bv = (stepM m (anyT 0 k)).isSome := ⟨_, rfl⟩
      have HST := Lib.hid (fun (W : World) (g : Nat) (v5 : Value) (hW : Below w2.heap.size w2 W) (hm : McAt W w2.heap.size g v5 m) => (step_any2 (anyT 0 k) W w2.heap.size g v5 m pre hm HI.out hl).mono (fun e W' h => show e = .returned (.bool bv) ∧ Below w2.heap.size w2 W' from by
        obtain ⟨h1, h2⟩ := h
        refine ⟨?_, hW.trans h1⟩
        rw [hbv]
        cases hst : stepM m (anyT 0 k) with
        | none => rw [hst] at h2; exact h2
        | some m2 => rw [hst] at h2; exact h2.1))
      have et : ltVal (anyT 0 k) = .agg #[.int .i64 k, .string ⟨#[42]⟩, .int .i64 1, .int .i64 0, .int .i64 0] := rfl
      rw [et] at HST
      have HBV := Lib.hid hbv
      clear hbv et
      go_region_law (first
        | (go_simp; go_at_call 75; refine (HCP.out _ (by repeat (first | assumption | exact Below.refl _ _ | with_reducible refine Below.drew ?_ | with_reducible refine Below.alloc ?_ (by first | exact Nat.le_refl _ | exact Below.size (by assumption)) _))).mono ?_; rintro e w5 ⟨g, v5, rfl, hb5, hm5, e0, e1, e2, e3, e4⟩)
        | (go_simp; go_at_call 50; refine (HST.out _ _ _ (by repeat (first | assumption | exact Below.refl _ _ | with_reducible refine Below.drew ?_ | with_reducible refine Below.alloc ?_ (by first | exact Nat.le_refl _ | exact Below.size (by assumption)) _)) (by repeat (first | assumption | with_reducible refine McAt.drew ?_))).mono ?_; rintro e w6 ⟨rfl, hb6⟩))
      all_goals
        have HB6 := Lib.hid (HX.out.trans (hb6.mono hsz2))
        have HT6 := Lib.hid (HT2.out.belowW hb6)
        cases bv with
        | true =>
          have HR := Lib.hid (show anyM m k = true from by unfold anyM; rw [← HBV.out]; simp)
          clear hb6
          go_wp2
          go_ret
          exact ⟨by rw [HR.out]; rfl, HB6.out⟩
        | false =>
          have HN := Lib.hid (show stepM m (anyT 0 k) = none from by have h := HBV.out; cases hst : stepM m (anyT 0 k) with | none => rfl | some m2 => rw [hst] at h; cases h)
          clear hb6
          go_wp2
          go_roundw
          case rel =>
            refine ⟨1, by omega, by go_num, fun j hj => ?_, HB6.out, HT6.out⟩
            have hj0 : j = 0 := by omega
            subst hj0
            exact HN.out
          case measure => simp [intOf]
    · have c0 := hcl 5; have c1 := hcl 6; have c2 := hcl 7; have c3 := hcl 8; have c4 := hcl 9
      simp only [anyCells, List.getElem?_toArray, List.getElem?_cons_zero, List.getElem?_cons_succ] at c0 c1 c2 c3 c4
      clear hcl
      have HX := Lib.hid (HB.out.alloc hsz (.cells #[.int .i64 k, .string ⟨#[97, 42]⟩, .int .i64 0, .int .i64 0, .int .i64 0] 49))
      have HT2 := Lib.hid (HT.out.alloc (.cells #[.int .i64 k, .string ⟨#[97, 42]⟩, .int .i64 0, .int .i64 0, .int .i64 0] 49))
      have HM2 := Lib.hid (HMr.out.alloc (.cells #[.int .i64 k, .string ⟨#[97, 42]⟩, .int .i64 0, .int .i64 0, .int .i64 0] 49))
      have HK2 := Lib.hid (Blk.new wr 49 #[.int .i64 k, .string ⟨#[97, 42]⟩, .int .i64 0, .int .i64 0, .int .i64 0])
      go_upto_if 4 with (fail)
      generalize wr.alloc (.cells #[.int .i64 k, .string ⟨#[97, 42]⟩, .int .i64 0, .int .i64 0, .int .i64 0] 49) = w2 at *
      have k0 := HK2.out.cell 0; have k1 := HK2.out.cell 1; have k2 := HK2.out.cell 2; have k3 := HK2.out.cell 3; have k4 := HK2.out.cell 4; have kz := HK2.out.lt
      simp only [List.getElem?_toArray, List.getElem?_cons_zero, List.getElem?_cons_succ] at k0 k1 k2 k3 k4
      have hsz2 : w.heap.size ≤ w2.heap.size := HX.out.size
      have HCP := Lib.hid (fun (W : World) (hW : Below w2.heap.size w2 W) => (copy_any W B mb v m (HM2.out.below hW) hlb).mono (fun e W' h => show ∃ g v5, e = .returned (.pointer (some ⟨g, 0, none⟩)) ∧ Below w2.heap.size w2 W' ∧ McAt W' w2.heap.size g v5 m ∧ W'.cell? ⟨wr.heap.size, 0, none⟩ = some (.int .i64 k) ∧ W'.cell? ⟨wr.heap.size, 1, none⟩ = some ((.string ⟨#[97, 42]⟩)) ∧ W'.cell? ⟨wr.heap.size, 2, none⟩ = some (.int .i64 0) ∧ W'.cell? ⟨wr.heap.size, 3, none⟩ = some (.int .i64 0) ∧ W'.cell? ⟨wr.heap.size, 4, none⟩ = some (.int .i64 0) from by
        obtain ⟨h1, g, v5, h2, h3⟩ := h
        have hZ : Below w2.heap.size w2 W' := hW.trans (h1.mono hW.size)
        exact ⟨g, v5, h2, hZ, ⟨h3.blk, h3.own.more hW.size, Nat.le_trans hW.size h3.hB, Nat.le_trans hW.size h3.hm⟩, (hZ.cell (p := ⟨wr.heap.size, 0, none⟩) kz).trans k0, (hZ.cell (p := ⟨wr.heap.size, 1, none⟩) kz).trans k1, (hZ.cell (p := ⟨wr.heap.size, 2, none⟩) kz).trans k2, (hZ.cell (p := ⟨wr.heap.size, 3, none⟩) kz).trans k3, (hZ.cell (p := ⟨wr.heap.size, 4, none⟩) kz).trans k4⟩))
      obtain ⟨bv, hbv⟩ : ∃ bv, bv = (stepM m (anyT 1 k)).isSome := ⟨_, rfl⟩
      have HST := Lib.hid (fun (W : World) (g : Nat) (v5 : Value) (hW : Below w2.heap.size w2 W) (hm : McAt W w2.heap.size g v5 m) => (step_any2 (anyT 1 k) W w2.heap.size g v5 m pre hm HI.out hl).mono (fun e W' h => show e = .returned (.bool bv) ∧ Below w2.heap.size w2 W' from by
        obtain ⟨h1, h2⟩ := h
        refine ⟨?_, hW.trans h1⟩
        rw [hbv]
        cases hst : stepM m (anyT 1 k) with
        | none => rw [hst] at h2; exact h2
        | some m2 => rw [hst] at h2; exact h2.1))
      have et : ltVal (anyT 1 k) = .agg #[.int .i64 k, .string ⟨#[97, 42]⟩, .int .i64 0, .int .i64 0, .int .i64 0] := rfl
      rw [et] at HST
      have HBV := Lib.hid hbv
      clear hbv et
      go_region_law (first
        | (go_simp; go_at_call 75; refine (HCP.out _ (by repeat (first | assumption | exact Below.refl _ _ | with_reducible refine Below.drew ?_ | with_reducible refine Below.alloc ?_ (by first | exact Nat.le_refl _ | exact Below.size (by assumption)) _))).mono ?_; rintro e w5 ⟨g, v5, rfl, hb5, hm5, e0, e1, e2, e3, e4⟩)
        | (go_simp; go_at_call 50; refine (HST.out _ _ _ (by repeat (first | assumption | exact Below.refl _ _ | with_reducible refine Below.drew ?_ | with_reducible refine Below.alloc ?_ (by first | exact Nat.le_refl _ | exact Below.size (by assumption)) _)) (by repeat (first | assumption | with_reducible refine McAt.drew ?_))).mono ?_; rintro e w6 ⟨rfl, hb6⟩))
      all_goals
        have HB6 := Lib.hid (HX.out.trans (hb6.mono hsz2))
        have HT6 := Lib.hid (HT2.out.belowW hb6)
        cases bv with
        | true =>
          have HR := Lib.hid (show anyM m k = true from by unfold anyM; rw [← HBV.out]; simp)
          clear hb6
          go_wp2
          go_ret
          exact ⟨by rw [HR.out]; rfl, HB6.out⟩
        | false =>
          have HN := Lib.hid (show stepM m (anyT 1 k) = none from by have h := HBV.out; cases hst : stepM m (anyT 1 k) with | none => rfl | some m2 => rw [hst] at h; cases h)
          clear hb6
          go_wp2
          go_roundw
          case rel =>
            refine ⟨2, by omega, by go_num, fun j hj => ?_, HB6.out, HT6.out⟩
            have hj2 : j = 0 ∨ j = 1 := by omega
            rcases hj2 with rfl | rfl
            · exact HNO.out 0 (by omega)
            · exact HN.out
          case measure => simp [intOf]
    · have HR := Lib.hid (show anyM m k = false from by unfold anyM; rw [HNO.out 0 (by omega), HNO.out 1 (by omega)]; rfl)
      clear hcl
      go_wp2
      go_ret
      exact ⟨by rw [HR.out]; first | rfl | (show _ = _; simp [go_sem]), HB.out⟩
end Go.Proofs.YtcomdkejpaoneaaDoor
end
section
namespace Go.Proofs.YtcomdkejpaoneaaDoor
open Go.RowKit
set_option maxRecDepth 100000
set_option maxHeartbeats 4000000
set_option linter.unusedSimpArgs false
set_option linter.unusedVariables false
def folS : Shape Int := { tS := 33, tE := 3, size := 1, bytes := 8, enc := fun x => [.int .i64 x], zero := .int .i64 0 }
theorem folOk : folS.Ok where
  under := Tryd.underlying33
  info := by kernel_rfl
  zs := rfl
  pos := by decide
  len := fun _ => rfl
  one := fun x u hu => by
    simp only [folS, List.mem_cons, List.not_mem_nil, or_false] at hu
    subst hu; rfl
  small := by decide
theorem Inv.below_le {m : Mc} {pre : List Lt} (h : Inv m pre) : m.below.length ≤ pre.length := by
  by_cases h1 : m.state = 14
  · obtain ⟨P, C, rfl, hs, hc, _, hb⟩ := h
    rw [hb h1]; exact Nat.zero_le _
  · have h2 := h.st
    have := h.le (by omega)
    omega
def folL (m : Mc) (n : Nat) : List Int := ((List.range n).filter fun i : Nat => anyM m (i : Int)).map fun i : Nat => (i : Int)
theorem folL_succ (m : Mc) (n : Nat) : folL m (n + 1) = folL m n ++ (if anyM m (n : Int) = true then [(n : Int)] else []) := by
  unfold folL; rw [List.range_succ, List.filter_append, List.map_append, List.filter_cons, List.filter_nil]
  split <;> rfl
theorem folL_len (m : Mc) (n : Nat) : (folL m n).length ≤ n := by
  unfold folL; rw [List.length_map]; exact Nat.le_trans (List.length_filter_le _ _) (by simp)
def FolRet (ts : List Lt) (w : World) (e : Ending) (w' : World) : Prop :=
  Below w.heap.size w w' ∧ match runI mc0 0 ts with
    | .inl m => ∃ sl, e = .returned sl ∧ OwnL folS w' w.heap.size sl (folL m 22)
    | .inr _ => e = .returned (.slice none 0 0)
def FolRel (m : Mc) (w w1 : World) (ov iv : Value) (wr : World) : Prop :=
  ∃ i : Nat, i ≤ 22 ∧ iv = .int .i64 (i : Int) ∧ OwnL folS wr w1.heap.size ov (folL m i) ∧ Below w1.heap.size w1 wr
theorem sfollow_any (x : Value) (ts : List Lt) (w : World) (hx : RdL ltS w w.heap.size x ts) (hl : ts.length ≤ 1000000000) :
    Calls Tryd.prog 27 #[x] w (FolRet ts w) := by
  have HRN := Lib.hid (mrun_any x ts w hx hl)
  obtain ⟨A, cap, rfl, h1, h2⟩ := hx.open_
  clear hx
  go_enter Tryd.func27, Tryd.ntmps27
  go_wp2_with fail
  refine HRN.out.mono ?_
  rintro e w1 ⟨hb1, hm⟩
  have HB1 := Lib.hid hb1
  have hsz1 : w.heap.size ≤ w1.heap.size := hb1.size
  cases hrn : runI mc0 0 ts with
  | inr i =>
    rw [hrn] at hm
    obtain ⟨hi, mb, rfl⟩ := hm
    have HR := Lib.hid hrn
    clear hrn hb1
    go_wp2
    go_ret
    exact ⟨HB1.out, by rw [HR.out]; rfl⟩
  | inl m =>
    rw [hrn] at hm
    obtain ⟨hi, mb, v, rfl, hm1⟩ := hm
    have HR := Lib.hid hrn
    have HI := Lib.hid hi
    have HM1 := Lib.hid hm1
    have hlb : m.below.length ≤ 1000000000 := Nat.le_trans hi.below_le hl
    clear hrn hb1 hi hm1
    go_wp2
    go_loopw [5, 6] (fun ov iv wr => FolRel m w w1 ov iv wr) (fun _ iv _ => 22 - (intOf iv).toNat)
    case atStart => exact ⟨0, by omega, rfl, OwnL.nil _ _ _, Below.refl _ _⟩
    case round =>
      obtain ⟨i, hi2, rfl, ho, hb⟩ := hrel
      have HO := Lib.hid ho; have HB := Lib.hid hb
      have hszr : w1.heap.size ≤ wr.heap.size := hb.size
      obtain ⟨A2, cap2, rfl, -, -, -⟩ := ho.open_
      have hle := folL_len m i
      have HLE := Lib.hid hle
      have HAN := Lib.hid (mcany_any wr w.heap.size mb v m ts (i : Int) (HM1.out.below hb) HI.out hl hlb)
      have hwk : IntKind.i64.wrap ((i : Int) + 1) = (i : Int) + 1 := IntWalk.i64_in _ (by omega)
      clear ho hb hle
      by_cases hlt : i < 22
      · go_wp2_with fail
        refine HAN.out.mono ?_
        rintro e w2 ⟨rfl, hb2⟩
        have HO2 := Lib.hid (HO.out.below hb2)
        have HB2 := Lib.hid (HB.out.trans (hb2.mono hszr))
        have HNX := Lib.hid (folL_succ m i)
        have hsz2 : w1.heap.size ≤ w2.heap.size := Nat.le_trans hszr hb2.size
        clear hb2
        generalize anyM m (i : Int) = bv at *
        cases bv with
        | true =>
          go_wp2_with (at_builtin; refine OwnL.append folOk HO2.out (i : Int) rfl _ _ rfl rfl rfl _ rfl hsz2 ?_ ?_)
          · have := HLE.out; omega
          · intro v' w' h2 h3
            have H2 := Lib.hid h2; have HB3 := Lib.hid (HB2.out.trans h3)
            clear h2 h3
            go_wp2
            go_roundw
            case rel => exact ⟨i + 1, by omega, by go_num, by rw [HNX.out]; exact H2.out, HB3.out⟩
            case measure => simp [intOf]; omega
        | false =>
          go_wp2
          go_roundw
          case rel => exact ⟨i + 1, by omega, by go_num, by rw [HNX.out]; have h := HO2.out; simpa using h, HB2.out⟩
          case measure => simp [intOf]; omega
      · have he : i = 22 := by omega
        subst he
        go_wp2
        go_ret
        exact ⟨HB1.out.trans (HB.out.mono hsz1), by rw [HR.out]; exact ⟨_, rfl, HO.out.more hsz1⟩⟩
end Go.Proofs.YtcomdkejpaoneaaDoor
end
section
namespace Go.Proofs.YtcomdkejpaoneaaDoor
open Go.RowKit
set_option maxRecDepth 100000
set_option maxHeartbeats 1000000
set_option linter.unusedSimpArgs false
set_option linter.unusedVariables false
structure Sl where
  a : Option Addr
  n : Nat
  c : Nat
def Sl.v (s : Sl) : Value := .slice s.a s.n s.c
structure NV where
  kind : Int
  field : List UInt8
  text : List UInt8
  n : Int
  lo : Bd
  hi : Bd
  occ : Sl
  kids : Sl
def NV.cells (x : NV) : List Value := [.int .i64 x.kind, .string (str x.field), .string (str x.text), .int .i64 x.n, .bool x.lo.open_, .bool x.lo.in_, .string (str x.lo.text), .bool x.hi.open_, .bool x.hi.in_, .string (str x.hi.text), .slice x.occ.a x.occ.n x.occ.c, .slice x.kids.a x.kids.n x.kids.c]
def NV.val (x : NV) : Value := .agg #[.int .i64 x.kind, .string (str x.field), .string (str x.text), .int .i64 x.n, .bool x.lo.open_, .bool x.lo.in_, .string (str x.lo.text), .bool x.hi.open_, .bool x.hi.in_, .string (str x.hi.text), .slice x.occ.a x.occ.n x.occ.c, .slice x.kids.a x.kids.n x.kids.c]
def ndS : Shape NV := { tS := 34, tE := 36, size := 12, bytes := 144, enc := NV.cells, zero := .agg #[.int .i64 0, .string ⟨#[]⟩, .string ⟨#[]⟩, .int .i64 0, .bool false, .bool false, .string ⟨#[]⟩, .bool false, .bool false, .string ⟨#[]⟩, .slice none 0 0, .slice none 0 0] }
theorem ndOk : ndS.Ok where
  under := Tryd.underlying34
  info := by kernel_rfl
  zs := rfl
  pos := by decide
  len := fun _ => rfl
  one := fun x u hu => by
    simp only [ndS, NV.cells, List.mem_cons, List.not_mem_nil, or_false] at hu
    rcases hu with rfl | rfl | rfl | rfl | rfl | rfl | rfl | rfl | rfl | rfl | rfl | rfl <;> rfl
  small := by decide
def RdF {α : Type} (S : Shape α) (w : World) (F : Nat → Prop) (s : Sl) (l : List α) : Prop :=
  s.n = l.length ∧ s.n ≤ s.c ∧ s.c ≤ maxLen ∧ (0 < l.length → ∃ a, s.a = some a ∧ F a.block ∧ ∀ j u, (S.cells l)[j]? = some u → w.cell? (a.add j) = some u) ∧ (s.a = none → s.c = 0)
section
variable {α : Type} {S : Shape α} {w w' : World} {F G : Nat → Prop} {s : Sl} {l : List α}
theorem RdF.rd {B : Nat} (h : RdF S w F s l) (hF : ∀ b, F b → b < B) : RdL S w B (.slice s.a s.n s.c) l := by
  obtain ⟨h1, h2, h3, h4, h5⟩ := h
  rw [h1] at h2 ⊢
  refine ⟨s.a, s.c, rfl, h2, h3, fun hn => ?_, h5⟩
  obtain ⟨a, e, hb, hc⟩ := h4 hn
  exact ⟨a, e, hF _ hb, hc⟩
theorem RdF.mono (h : RdF S w F s l) (hFG : ∀ b, F b → G b) : RdF S w G s l := by
  obtain ⟨h1, h2, h3, h4, h5⟩ := h
  refine ⟨h1, h2, h3, fun hn => ?_, h5⟩
  obtain ⟨a, e, hb, hc⟩ := h4 hn
  exact ⟨a, e, hFG _ hb, hc⟩
theorem RdF.keep (h : RdF S w F s l) (hk : ∀ p : Addr, F p.block → p.block < w.heap.size → w'.cell? p = w.cell? p) : RdF S w' F s l := by
  obtain ⟨h1, h2, h3, h4, h5⟩ := h
  refine ⟨h1, h2, h3, fun hn => ?_, h5⟩
  obtain ⟨a, e, hb, hc⟩ := h4 hn
  refine ⟨a, e, hb, fun j u hu => ?_⟩
  have h6 := hc j u hu
  rw [hk _ (by rw [block_of_add]; exact hb) (World.block_lt_of_cell? w _ h6)]
  exact h6
theorem RdF.nil (S : Shape α) (w : World) (F : Nat → Prop) : RdF S w F ⟨none, 0, 0⟩ [] := ⟨rfl, Nat.le_refl _, (by show 0 ≤ _; exact Nat.zero_le _), fun h => by simp at h, fun _ => rfl⟩
theorem RdF.of_own {B : Nat} {A : Option Addr} {n c : Nat} (h : OwnL S w B (.slice A n c) l) (hF : ∀ g, A = some ⟨g, 0, none⟩ → B ≤ g → g < w.heap.size → F g) : RdF S w F ⟨A, n, c⟩ l := by
  have hrd := RdL.of_own h
  obtain ⟨A', c', e, h1, h2, h3, h4⟩ := hrd
  injection e with e1 e2 e3
  subst e1 e2 e3
  refine ⟨rfl, h1, h2, fun hn => ?_, h4⟩
  obtain ⟨a, e, hb, hc⟩ := h3 hn
  refine ⟨a, e, ?_, hc⟩
  rcases h.2 with ⟨e2, h0⟩ | ⟨g, cap, cur, hv, hg, hh, _⟩
  · omega
  · injection hv with hv _ _
    rw [e] at hv
    injection hv with hv
    subst hv
    exact hF g e hg hb
end
inductive NdR (w : World) (F : Nat → Prop) : NV → Nd → Prop
  | mk {kind n : Int} {field text : List UInt8} {lo hi : Bd} {so sk : Sl} {occ : List Int} {nl : List NV} {kids : List Nd} : RdF folS w F so occ → RdF ndS w F sk nl → nl.length = kids.length →
      (∀ (i : Nat) (x : NV) (t : Nd), nl[i]? = some x → kids[i]? = some t → NdR w F x t) → NdR w F ⟨kind, field, text, n, lo, hi, so, sk⟩ (.mk kind field text n lo hi occ kids)
theorem NdR.mono {w : World} {F G : Nat → Prop} {x : NV} {t : Nd} (h : NdR w F x t) (hFG : ∀ b, F b → G b) : NdR w G x t := by
  induction h with
  | mk h1 h2 h3 _ ih => exact .mk (h1.mono hFG) (h2.mono hFG) h3 fun i x t hx ht => ih i x t hx ht
theorem NdR.keep {w w' : World} {F : Nat → Prop} {x : NV} {t : Nd} (h : NdR w F x t) (hk : ∀ p : Addr, F p.block → p.block < w.heap.size → w'.cell? p = w.cell? p) : NdR w' F x t := by
  induction h with
  | mk h1 h2 h3 _ ih => exact .mk (h1.keep hk) (h2.keep hk) h3 fun i x t hx ht => ih i x t hx ht
def NdRs (w : World) (F : Nat → Prop) (nl : List NV) (ts : List Nd) : Prop := nl.length = ts.length ∧ ∀ (i : Nat) (x : NV) (t : Nd), nl[i]? = some x → ts[i]? = some t → NdR w F x t
section
variable {w w' : World} {F G : Nat → Prop} {nl : List NV} {ts : List Nd}
theorem NdRs.mono (h : NdRs w F nl ts) (hFG : ∀ b, F b → G b) : NdRs w G nl ts := ⟨h.1, fun i x t hx ht => (h.2 i x t hx ht).mono hFG⟩
theorem NdRs.keep (h : NdRs w F nl ts) (hk : ∀ p : Addr, F p.block → p.block < w.heap.size → w'.cell? p = w.cell? p) : NdRs w' F nl ts := ⟨h.1, fun i x t hx ht => (h.2 i x t hx ht).keep hk⟩
theorem NdRs.nil (w : World) (F : Nat → Prop) : NdRs w F [] [] := ⟨rfl, fun i x t hx _ => by simp at hx⟩
theorem NdRs.snoc {x : NV} {t : Nd} (h : NdRs w F nl ts) (hx : NdR w F x t) : NdRs w F (nl ++ [x]) (ts ++ [t]) := by
  refine ⟨by rw [List.length_append, List.length_append, h.1]; rfl, fun i y s hy hs => ?_⟩
  by_cases hi : i < nl.length
  · rw [List.getElem?_append_left hi] at hy
    rw [List.getElem?_append_left (by rw [← h.1]; exact hi)] at hs
    exact h.2 i y s hy hs
  · rw [List.getElem?_append_right (by omega)] at hy
    rw [List.getElem?_append_right (by rw [← h.1]; omega), ← h.1] at hs
    obtain ⟨k, hk⟩ : ∃ k, k = i - nl.length := ⟨_, rfl⟩
    rw [← hk] at hy hs
    cases k with
    | zero => simp only [List.getElem?_cons_zero, Option.some.injEq] at hy hs; subst hy hs; exact hx
    | succ k => simp at hy
end
def rng (C D : Nat) : Nat → Prop := fun b => C ≤ b ∧ b < D
structure PB (pb : Nat) (w w' : World) : Prop where
  below : Below pb w w'
  keep : ∀ b, b < w.heap.size → b ≠ pb → w'.heap[b]? = w.heap[b]?
section
variable {pb : Nat} {w w' w'' : World}
theorem PB.refl (pb : Nat) (w : World) : PB pb w w := ⟨Below.refl _ _, fun _ _ _ => rfl⟩
theorem PB.size (h : PB pb w w') : w.heap.size ≤ w'.heap.size := h.below.size
theorem PB.trans (h : PB pb w w') (h2 : PB pb w' w'') : PB pb w w'' :=
  ⟨h.below.trans h2.below, fun b hb hp => (h2.keep b (Nat.lt_of_lt_of_le hb h.size) hp).trans (h.keep b hb hp)⟩
theorem PB.of (h : Below w.heap.size w w') (hp : pb ≤ w.heap.size) : PB pb w w' := ⟨h.mono hp, fun b hb _ => h.block b hb⟩
theorem PB.set_ (i : Nat) (u : Value) : PB pb w (w.setCell ⟨pb, i, none⟩ u) :=
  ⟨(Below.refl _ _).setCell (p := ⟨pb, i, none⟩) (Nat.le_refl _) _, fun b _ hp => Below.heap_setCell w ⟨pb, i, none⟩ u b hp⟩
theorem PB.new {z i : Nat} {u : Value} (h : PB pb w w') (hp : pb ≤ w.heap.size) (hz : w.heap.size ≤ z) : PB pb w (w'.setCell ⟨z, i, none⟩ u) :=
  ⟨h.below.setCell (p := ⟨z, i, none⟩) (Nat.le_trans hp hz) _, fun b hb hn => (Below.heap_setCell w' ⟨z, i, none⟩ u b (by show b ≠ z; omega)).trans (h.keep b hb hn)⟩
theorem PB.alloc (h : PB pb w w') (hp : pb ≤ w.heap.size) (o : Obj) : PB pb w (w'.alloc o) :=
  h.trans (.of ((Below.refl _ _).alloc (Nat.le_refl _) o) (Nat.le_trans hp h.size))
theorem PB.drew (h : PB pb w w') : PB pb w w'.drew := ⟨h.below.drew, h.keep⟩
theorem PB.cell (h : PB pb w w') (p : Addr) (hp : p.block < w.heap.size) (hn : p.block ≠ pb) : w'.cell? p = w.cell? p := World.cell?_of_block (h.keep _ hp hn)
end
theorem NdR.pb {pb : Nat} {w w' : World} {F : Nat → Prop} {x : NV} {t : Nd} (h : NdR w F x t) (hk : PB pb w w') (hF : ∀ b, F b → b ≠ pb) : NdR w' F x t := h.keep fun p hp hlt => hk.cell p hlt (hF _ hp)
theorem NdRs.pb {pb : Nat} {w w' : World} {F : Nat → Prop} {nl : List NV} {ts : List Nd} (h : NdRs w F nl ts) (hk : PB pb w w') (hF : ∀ b, F b → b ≠ pb) : NdRs w' F nl ts := h.keep fun p hp hlt => hk.cell p hlt (hF _ hp)
theorem OwnL.pb {α : Type} {S : Shape α} {pb B : Nat} {w w' : World} {v : Value} {l : List α} (h : OwnL S w B v l) (hk : PB pb w w') (hp : pb < B) : OwnL S w' B v l := by
  refine ⟨h.1, ?_⟩
  rcases h.2 with h2 | ⟨g, cap, cur, hv, hg, hh, r⟩
  · exact Or.inl h2
  · refine Or.inr ⟨g, cap, cur, hv, hg, ?_, r⟩
    have hlt : g < w.heap.size := by
      rcases Nat.lt_or_ge g w.heap.size with h | h
      · exact h
      · rw [Array.getElem?_eq_none h] at hh; cases hh
    rw [hk.keep g hlt (by omega)]; exact hh
structure PsAt (w : World) (pb : Nat) (A : Option Addr) (cap : Nat) (ts : List Lt) (k : Nat) : Prop where
  blk : Blk w pb 73 #[.slice A ts.length cap, .int .i64 (k : Int)]
  rd : RdL ltS w pb (.slice A ts.length cap) ts
section
variable {w w' : World} {pb cap k : Nat} {A : Option Addr} {ts : List Lt}
theorem PsAt.lt (h : PsAt w pb A cap ts k) : pb < w.heap.size := h.blk.lt
theorem PsAt.belowW (h : PsAt w pb A cap ts k) (hb : Below w.heap.size w w') : PsAt w' pb A cap ts k := ⟨h.blk.belowW hb, h.rd.belowW (Nat.le_of_lt h.lt) hb⟩
theorem PsAt.drew (h : PsAt w pb A cap ts k) : PsAt w.drew pb A cap ts k := h.belowW (Below.refl _ _).drew
theorem PsAt.alloc (h : PsAt w pb A cap ts k) (o : Obj) : PsAt (w.alloc o) pb A cap ts k := h.belowW ((Below.refl _ _).alloc (Nat.le_refl _) _)
theorem PsAt.to (h : PsAt w pb A cap ts k) (j : Nat) : PsAt (w.setCell ⟨pb, 1, none⟩ (.int .i64 (j : Int))) pb A cap ts j :=
  ⟨h.blk.set_ 1 _, h.rd.below ((Below.refl _ _).setCell (p := ⟨pb, 1, none⟩) (Nat.le_refl _) _)⟩
theorem PsAt.far {z i : Nat} {u : Value} (h : PsAt w pb A cap ts k) (hz : pb < z) : PsAt (w.setCell ⟨z, i, none⟩ u) pb A cap ts k :=
  ⟨h.blk.far (p := ⟨z, i, none⟩) (by show pb ≠ z; omega) _, h.rd.below ((Below.refl _ _).setCell (p := ⟨z, i, none⟩) (Nat.le_of_lt hz) _)⟩
theorem PsAt.keptN {u : Value} (h : PsAt w pb A cap ts k) (hb : Below pb w w') (hk : KeptBut w w' u) (hu : u.ownBlock ≠ some pb) : PsAt w' pb A cap ts k := by
  refine ⟨?_, h.rd.below hb⟩
  have h2 := h.blk
  unfold Blk at h2 ⊢
  rw [hk pb h.lt hu]; exact h2
end
end Go.Proofs.YtcomdkejpaoneaaDoor
end
section
namespace Go.Proofs.YtcomdkejpaoneaaDoor
open Go.RowKit
set_option maxRecDepth 100000
set_option maxHeartbeats 4000000
set_option linter.unusedSimpArgs false
set_option linter.unusedVariables false
theorem pkind_any (w : World) (pb : Nat) (A : Option Addr) (cap : Nat) (ts : List Lt) (k : Nat) (h : PsAt w pb A cap ts k) (hk : k < ts.length) (hl : ts.length ≤ 100000000) :
    Calls Tryd.prog 54 #[.pointer (some ⟨pb, 0, none⟩)] w fun e w' => e = .returned (.int .i64 ts[k].kind) ∧ Below w.heap.size w w' ∧ w'.heap.size = w.heap.size := by
  obtain ⟨a, rfl, hab, q0, -, -, -, -⟩ := at_lt h.rd hk
  have c0 := h.blk.cell 0; have c1 := h.blk.cell 1
  simp only [List.getElem?_toArray, List.getElem?_cons_zero, List.getElem?_cons_succ] at c0 c1
  generalize ts[k].kind = kd at *
  clear h
  go_enter Tryd.func54, Tryd.ntmps54
  go_wp2
  go_quiet (fail)
  go_wp2
  go_ret
  exact ⟨rfl, below_drewN (Below.refl _ _) _, rfl⟩
def NxtRet (pb : Nat) (A : Option Addr) (cap : Nat) (ts : List Lt) (k : Nat) (t : Lt) (w : World) (e : Ending) (w' : World) : Prop :=
  e = .returned (ltVal t) ∧ PB pb w w' ∧ PsAt w' pb A cap ts (k + 1)
theorem pnext_any (w : World) (pb : Nat) (A : Option Addr) (cap : Nat) (ts : List Lt) (k : Nat) (h : PsAt w pb A cap ts k) (hk : k < ts.length) (hl : ts.length ≤ 100000000) :
    Calls Tryd.prog 86 #[.pointer (some ⟨pb, 0, none⟩)] w (NxtRet pb A cap ts k ts[k] w) := by
  obtain ⟨⟨tk, tx, tn, ta, te⟩, ht⟩ : ∃ t, t = ts[k] := ⟨_, rfl⟩
  rw [← ht]
  have HT := Lib.hid ht
  clear ht
  have H := Lib.hid h
  have HA1 := Lib.hid (h.alloc (.cells #[.int .i64 0, .string ⟨#[]⟩, .int .i64 0, .int .i64 0, .int .i64 0] 49))
  have HZ := Lib.hid (Blk.new w 49 #[.int .i64 0, .string ⟨#[]⟩, .int .i64 0, .int .i64 0, .int .i64 0])
  have HB := Lib.hid (show Below w.heap.size w (w.alloc (.cells #[.int .i64 0, .string ⟨#[]⟩, .int .i64 0, .int .i64 0, .int .i64 0] 49)) from (Below.refl _ _).alloc (Nat.le_refl _) _)
  have hw1 : (w.alloc (.cells #[.int .i64 0, .string ⟨#[]⟩, .int .i64 0, .int .i64 0, .int .i64 0] 49)).heap.size = w.heap.size + 1 := World.size_alloc _ _
  have HW1 := Lib.hid hw1
  clear h hw1
  go_enter Tryd.func86, Tryd.ntmps86
  go_wp2
  generalize w.alloc (.cells #[.int .i64 0, .string ⟨#[]⟩, .int .i64 0, .int .i64 0, .int .i64 0] 49) = w1 at *
  obtain ⟨a, rfl, hab, q0, q1, q2, q3, q4⟩ := at_lt HA1.out.rd hk
  have c0 := HA1.out.blk.cell 0; have c1 := HA1.out.blk.cell 1; have lp := HA1.out.lt
  simp only [List.getElem?_toArray, List.getElem?_cons_zero, List.getElem?_cons_succ] at c0 c1
  rw [← HT.out] at q0 q1 q2 q3 q4
  simp only [] at q0 q1 q2 q3 q4
  have HSF := Lib.hid (fun (W : World) (hW : Below w1.heap.size w1 W) => (show W.cell? ⟨pb, 0, none⟩ = some (.slice (some a) ts.length cap) ∧ W.cell? ⟨pb, 1, none⟩ = some (.int .i64 (k : Int)) ∧ W.cell? (a.add (k * 5)) = some (.int .i64 tk) ∧ W.cell? ⟨(a.add (k * 5)).block, (a.add (k * 5)).off + 1, none⟩ = some (.string (str tx)) ∧ W.cell? ⟨(a.add (k * 5)).block, (a.add (k * 5)).off + 2, none⟩ = some (.int .i64 tn) ∧ W.cell? ⟨(a.add (k * 5)).block, (a.add (k * 5)).off + 3, none⟩ = some (.int .i64 ta) ∧ W.cell? ⟨(a.add (k * 5)).block, (a.add (k * 5)).off + 4, none⟩ = some (.int .i64 te) ∧ Below w1.heap.size w1 W from by
    have hlt : (a.add (k * 5)).block < w1.heap.size := by omega
    exact ⟨(hW.cell (p := ⟨pb, 0, none⟩) lp).trans c0, (hW.cell (p := ⟨pb, 1, none⟩) lp).trans c1, (hW.cell hlt).trans q0, (hW.cell (p := ⟨(a.add (k * 5)).block, (a.add (k * 5)).off + 1, none⟩) hlt).trans q1, (hW.cell (p := ⟨(a.add (k * 5)).block, (a.add (k * 5)).off + 2, none⟩) hlt).trans q2, (hW.cell (p := ⟨(a.add (k * 5)).block, (a.add (k * 5)).off + 3, none⟩) hlt).trans q3, (hW.cell (p := ⟨(a.add (k * 5)).block, (a.add (k * 5)).off + 4, none⟩) hlt).trans q4, hW⟩))
  have HA2 := Lib.hid ((HA1.out.alloc (.cells #[.int .i64 tk, .string (str tx), .int .i64 tn, .int .i64 ta, .int .i64 te] 49)).drew)
  have HT2 := Lib.hid ((Blk.new w1 49 #[.int .i64 tk, .string (str tx), .int .i64 tn, .int .i64 ta, .int .i64 te]).drew)
  have HZ2 := Lib.hid ((HZ.out.alloc (.cells #[.int .i64 tk, .string (str tx), .int .i64 tn, .int .i64 ta, .int .i64 te] 49)).drew)
  have HB2 := Lib.hid ((HB.out.alloc HB.out.size (.cells #[.int .i64 tk, .string (str tx), .int .i64 tn, .int .i64 ta, .int .i64 te] 49)).drew)
  clear q0 q1 q2 q3 q4 c0 c1 lp
  go_region_held3 (fun W => W.cell? ⟨pb, 0, none⟩ = some (.slice (some a) ts.length cap) ∧ W.cell? ⟨pb, 1, none⟩ = some (.int .i64 (k : Int)) ∧ W.cell? (a.add (k * 5)) = some (.int .i64 tk) ∧ W.cell? ⟨(a.add (k * 5)).block, (a.add (k * 5)).off + 1, none⟩ = some (.string (str tx)) ∧ W.cell? ⟨(a.add (k * 5)).block, (a.add (k * 5)).off + 2, none⟩ = some (.int .i64 tn) ∧ W.cell? ⟨(a.add (k * 5)).block, (a.add (k * 5)).off + 3, none⟩ = some (.int .i64 ta) ∧ W.cell? ⟨(a.add (k * 5)).block, (a.add (k * 5)).off + 4, none⟩ = some (.int .i64 te) ∧ Below w1.heap.size w1 W) (exact HSF.out _ (by repeat (first | assumption | exact Below.refl _ _ | with_reducible refine Below.drew ?_ | with_reducible refine Below.alloc ?_ (by first | exact Nat.le_refl _ | exact Below.size (by assumption)) _))) (fail)
  clear HSF HA1 HZ HB
  generalize (w1.alloc (.cells #[.int .i64 tk, .string (str tx), .int .i64 tn, .int .i64 ta, .int .i64 te] 49)).drew = w2 at *
  have c1 := HA2.out.blk.cell 1; have lp := HA2.out.lt; have fp1 := HA2.out.blk.frozen 1
  have t0 := HT2.out.cell 0; have t1 := HT2.out.cell 1; have t2 := HT2.out.cell 2; have t3 := HT2.out.cell 3; have t4 := HT2.out.cell 4
  have z0 := HZ2.out.cell 0; have z1 := HZ2.out.cell 1; have z2 := HZ2.out.cell 2; have z3 := HZ2.out.cell 3; have z4 := HZ2.out.cell 4; have lz := HZ2.out.lt
  have fz0 := HZ2.out.frozen 0; have fz1 := HZ2.out.frozen 1; have fz2 := HZ2.out.frozen 2; have fz3 := HZ2.out.frozen 3; have fz4 := HZ2.out.frozen 4
  simp only [List.getElem?_toArray, List.getElem?_cons_zero, List.getElem?_cons_succ] at c1 t0 t1 t2 t3 t4 z0 z1 z2 z3 z4
  have hp := H.out.lt
  have hnz : ¬ pb = w.heap.size := by omega
  have hn1 : ¬ pb = w1.heap.size := by have := HW1.out; omega
  have hnz2 : ¬ w.heap.size = pb := by omega
  have hn12 : ¬ w1.heap.size = pb := by have := HW1.out; omega
  have hwk : IntKind.i64.wrap ((k : Int) + 1) = (k : Int) + 1 := IntWalk.i64_in _ (by omega)
  go_wp2
  refine bodyPost_ret (v := ltVal ⟨tk, tx, tn, ta, te⟩) ?_ rfl ?_
  · simp [results, Tryd.results86, go_sem, ltVal, fz0, fz1, fz2, fz3, fz4, lz, z0, z1, z2, z3, z4]
  · have h3 := HA2.out.to (k + 1)
    have hz : pb < w.heap.size := hp
    refine ⟨rfl, ?_, ((((h3.far (z := w.heap.size) (i := 0) hz).far (z := w.heap.size) (i := 1) hz).far (z := w.heap.size) (i := 2) hz).far (z := w.heap.size) (i := 3) hz).far (z := w.heap.size) (i := 4) hz⟩
    have hle : pb ≤ w.heap.size := Nat.le_of_lt hp
    have hb2 := (PB.of (pb := pb) HB2.out hle).trans (PB.set_ 1 (.int .i64 ((k + 1 : Nat) : Int)))
    exact ((((hb2.new hle (Nat.le_refl _)).new hle (Nat.le_refl _)).new hle (Nat.le_refl _)).new hle (Nat.le_refl _)).new hle (Nat.le_refl _)
def TakRet (pb : Nat) (A : Option Addr) (cap : Nat) (ts : List Lt) (k : Nat) (b : Bool) (w : World) (e : Ending) (w' : World) : Prop :=
  e = .returned (.bool b) ∧ PB pb w w' ∧ PsAt w' pb A cap ts (if b = true then k + 1 else k)
theorem ptakes_any (w : World) (pb : Nat) (A : Option Addr) (cap : Nat) (ts : List Lt) (k : Nat) (K : Int) (h : PsAt w pb A cap ts k) (hk : k < ts.length) (hl : ts.length ≤ 100000000) :
    Calls Tryd.prog 55 #[.pointer (some ⟨pb, 0, none⟩), .int .i64 K] w (TakRet pb A cap ts k (decide (ts[k].kind = K)) w) := by
  have HK := Lib.hid (pkind_any w pb A cap ts k h hk hl)
  have H := Lib.hid h
  generalize ts[k].kind = kd at *
  clear h
  by_cases he : kd = K
  · have e1 : (kd != K) = false := by simpa using he
    rw [decide_eq_true he]
    clear he
    go_enter Tryd.func55, Tryd.ntmps55
    go_wp2_with fail
    refine HK.out.mono ?_
    rintro e w1 ⟨rfl, hb, hs⟩
    have HB := Lib.hid hb
    have HP := Lib.hid (H.out.belowW hb)
    have c1 := HP.out.blk.cell 1; have lp := HP.out.lt; have fp1 := HP.out.blk.frozen 1
    simp only [List.getElem?_toArray, List.getElem?_cons_zero, List.getElem?_cons_succ] at c1
    have hwk : IntKind.i64.wrap ((k : Int) + 1) = (k : Int) + 1 := IntWalk.i64_in _ (by omega)
    clear hb hs
    go_wp2
    go_ret
    exact ⟨rfl, (PB.of HB.out (Nat.le_of_lt H.out.lt)).trans (PB.set_ 1 _), HP.out.to (k + 1)⟩
  · have e1 : (kd != K) = true := by simpa using he
    rw [decide_eq_false he]
    clear he
    go_enter Tryd.func55, Tryd.ntmps55
    go_wp2_with fail
    refine HK.out.mono ?_
    rintro e w1 ⟨rfl, hb, hs⟩
    have HB := Lib.hid hb
    have HP := Lib.hid (H.out.belowW hb)
    clear hb hs
    go_wp2
    go_ret
    exact ⟨rfl, PB.of HB.out (Nat.le_of_lt H.out.lt), HP.out⟩
end Go.Proofs.YtcomdkejpaoneaaDoor
end
