/- Merged for a claim by shake.py: Mh -/
import Derived.Test.YtcomdkejpaoneaaDoorKe10
section
namespace Go.Proofs.YtcomdkejpaoneaaDoor
open Go.RowKit
set_option maxRecDepth 100000
set_option maxHeartbeats 8000000
set_option linter.unusedSimpArgs false
set_option linter.unusedVariables false
theorem after6_any (t : Lt) (w : World) (B mb : Nat) (v : Value) (m : Mc) (h : McAt w B mb v m) (hb : McB m) (hc : m.at_.nots + m.nest ≤ 1000000000) (hs : m.state = 6) :
    Calls Tryd.prog 83 #[.pointer (some ⟨mb, 0, none⟩), ltVal t] w (StRet B mb w (afterM m t)) := by
  obtain ⟨k, tx, n, a, b⟩ := t
  obtain ⟨st, ne, ⟨mo, no, sg⟩, bl⟩ := m
  simp only [] at hs hc
  subst hs
  obtain ⟨A, cap, hv, hc1, hc2⟩ := h.own.form
  subst hv
  obtain ⟨-, ⟨f0, f1, f2, f3, f4, f5⟩, hlt⟩ := h.facts
  obtain ⟨⟨c0, c1, c2, c3, c4, c5⟩, -, -⟩ := h.facts
  have c0 : w.cell? ⟨mb, 0, none⟩ = some (.int .i64 6) := c0
  simp only [] at c1 c2 c3 c4 c5
  have hno : no ≤ 1000000000 := hb.nots
  have hne : ne ≤ 1000000000 := hb.nest
  have H := Lib.hid h; have HB := Lib.hid hb
  have hBw := h.hB
  clear h hb
  unfold ltVal
  simp only []
  have hM := H.out.alloc (.cells #[.int .i64 k, .string (str tx), .int .i64 n, .int .i64 a, .int .i64 b] 49)
  have hX : Below B w (w.alloc (.cells #[.int .i64 k, .string (str tx), .int .i64 n, .int .i64 a, .int .i64 b] 49)) := (Below.refl B w).alloc hBw _
  have hT := Blk.new w 49 #[.int .i64 k, .string (str tx), .int .i64 n, .int .i64 a, .int .i64 b]
  have HM := Lib.hid hM; have HX := Lib.hid hX; have HT := Lib.hid hT
  clear hM hX hT
  by_cases h14 : k = 14
  · have e14 : (k == 14) = true := by simpa using h14
    have e20 : (k == 20) = false := by rw [h14]; decide
    have e21 : (k == 21) = false := by rw [h14]; decide
    have e18 : (k == 18) = false := by rw [h14]; decide
    have e19 : (k == 19) = false := by rw [h14]; decide
    have e4 : (k == 4) = false := by rw [h14]; decide
    have e5 : (k == 5) = false := by rw [h14]; decide
    have e17 : (k == 17) = false := by rw [h14]; decide
    have e0 : (k == 0) = false := by rw [h14]; decide
    have e9 : (k == 9) = false := by rw [h14]; decide
    have e15 : (k == 15) = false := by rw [h14]; decide
    have e16 : (k == 16) = false := by rw [h14]; decide
    have e6 : (k == 6) = false := by rw [h14]; decide
    have e1 : (k == 1) = false := by rw [h14]; decide
    have HR := Lib.hid (show afterM ⟨6, ne, ⟨mo, no, sg⟩, bl⟩ ⟨k, tx, n, a, b⟩ = some (Mc.to ⟨6, ne, ⟨mo, no, sg⟩, bl⟩ 3) from by unfold afterM; simp [h14])
    clear h14
    go_enter Tryd.func83, Tryd.ntmps83
    go_wp2
    go_ret
    exact StRet.good (((Below.refl B w).setCell (p := ⟨mb, 0, none⟩) H.out.hm _).alloc (by rw [set_size]; exact hBw) _) HR.out rfl ((H.out.setState 3).alloc _)
  by_cases h20 : k = 20
  · have e20 : (k == 20) = true := by simpa using h20
    have e14 : (k == 14) = false := by rw [h20]; decide
    have e21 : (k == 21) = false := by rw [h20]; decide
    have e18 : (k == 18) = false := by rw [h20]; decide
    have e19 : (k == 19) = false := by rw [h20]; decide
    have e4 : (k == 4) = false := by rw [h20]; decide
    have e5 : (k == 5) = false := by rw [h20]; decide
    have e17 : (k == 17) = false := by rw [h20]; decide
    have e0 : (k == 0) = false := by rw [h20]; decide
    have e9 : (k == 9) = false := by rw [h20]; decide
    have e15 : (k == 15) = false := by rw [h20]; decide
    have e16 : (k == 16) = false := by rw [h20]; decide
    have e6 : (k == 6) = false := by rw [h20]; decide
    have e1 : (k == 1) = false := by rw [h20]; decide
    have HR := Lib.hid (show afterM ⟨6, ne, ⟨mo, no, sg⟩, bl⟩ ⟨k, tx, n, a, b⟩ = none from by unfold afterM; simp [h20])
    clear h14 h20
    go_enter Tryd.func83, Tryd.ntmps83
    go_wp2
    go_ret
    exact StRet.bad (((Below.refl B w).setCell (p := ⟨mb, 0, none⟩) H.out.hm _).alloc (by rw [set_size]; exact hBw) _) HR.out rfl
  by_cases h21 : k = 21
  · have e21 : (k == 21) = true := by simpa using h21
    have e14 : (k == 14) = false := by rw [h21]; decide
    have e20 : (k == 20) = false := by rw [h21]; decide
    have e18 : (k == 18) = false := by rw [h21]; decide
    have e19 : (k == 19) = false := by rw [h21]; decide
    have e4 : (k == 4) = false := by rw [h21]; decide
    have e5 : (k == 5) = false := by rw [h21]; decide
    have e17 : (k == 17) = false := by rw [h21]; decide
    have e0 : (k == 0) = false := by rw [h21]; decide
    have e9 : (k == 9) = false := by rw [h21]; decide
    have e15 : (k == 15) = false := by rw [h21]; decide
    have e16 : (k == 16) = false := by rw [h21]; decide
    have e6 : (k == 6) = false := by rw [h21]; decide
    have e1 : (k == 1) = false := by rw [h21]; decide
    have hCL := close_kept (w.alloc (.cells #[.int .i64 k, .string (str tx), .int .i64 n, .int .i64 a, .int .i64 b] 49)) B mb _ ⟨6, ne, ⟨mo, no, sg⟩, bl⟩ HM.out HB.out
    have HCL := Lib.hid hCL
    clear hCL
    have HR := Lib.hid (show afterM ⟨6, ne, ⟨mo, no, sg⟩, bl⟩ ⟨k, tx, n, a, b⟩ = clauseM ((Mc.close ⟨6, ne, ⟨mo, no, sg⟩, bl⟩).to 0) ⟨k, tx, n, a, b⟩ from by unfold afterM; simp [h21])
    clear h14 h20 h21
    go_enter Tryd.func83, Tryd.ntmps83
    go_wp2_with fail
    refine HCL.out.mono ?_
    rintro e w2 ⟨rfl, hb2, hm2, hk2⟩
    have HX2 := Lib.hid (HX.out.trans hb2); have HM2 := Lib.hid hm2
    have HT2 := Lib.hid (hk2 _ _ _ (by omega) HT.out)
    clear hb2 hm2 hk2
    obtain ⟨-, ⟨q0, q1, q2, q3, q4, q5⟩, hlt2⟩ := HM2.out.facts
    obtain ⟨⟨d0, d1, d2, d3, d4, d5⟩, -, -⟩ := HM2.out.facts
    simp only [Mc.close] at d0 d1 d2 d3 d4 d5
    have hB0 : McB ((Mc.close ⟨6, ne, ⟨mo, no, sg⟩, bl⟩).to 0) := by
      have := HB.out.most
      exact ⟨Nat.zero_le _, Nat.max_le.2 ⟨this, hc⟩, Nat.zero_le _, HB.out.below⟩
    have hCA := step_clause_any ⟨k, tx, n, a, b⟩ _ B mb _ _ (HM2.out.setState 0) hB0 rfl
    have HCA := Lib.hid hCA
    have hT0 := HT2.out.far (p := ⟨mb, 0, none⟩) (by show w.heap.size ≠ mb; omega) (.int .i64 0)
    have k0 := HT2.out.cell 0; have k1 := HT2.out.cell 1; have k2 := HT2.out.cell 2; have k3 := HT2.out.cell 3; have k4 := HT2.out.cell 4
    simp only [List.getElem?_toArray, List.getElem?_cons_zero, List.getElem?_cons_succ] at k0 k1 k2 k3 k4
    have hg1 : ¬ w.heap.size = mb := by omega
    have hg2 : ¬ mb = w.heap.size := by omega
    clear hCA hT0 hB0
    go_wp2_with fail
    refine HCA.out.mono ?_
    intro e w3 h3
    cases hbm : clauseM ((Mc.close ⟨6, ne, ⟨mo, no, sg⟩, bl⟩).to 0) ⟨k, tx, n, a, b⟩ with
    | none =>
      unfold StRet at h3; rw [hbm] at h3
      obtain ⟨hb3, rfl⟩ := h3
      have HB3 := Lib.hid ((HX2.out.setCell (p := ⟨mb, 0, none⟩) H.out.hm _).trans hb3)
      have HBM := Lib.hid hbm; clear hb3 hbm
      go_wp2
      go_ret
      exact StRet.bad HB3.out (HR.out.trans HBM.out) rfl
    | some m2 =>
      unfold StRet at h3; rw [hbm] at h3
      obtain ⟨hb3, rfl, v2, hm3⟩ := h3
      have HB3 := Lib.hid ((HX2.out.setCell (p := ⟨mb, 0, none⟩) H.out.hm _).trans hb3); have HM3 := Lib.hid hm3
      have HBM := Lib.hid hbm; clear hb3 hm3 hbm
      go_wp2
      go_ret
      exact StRet.good HB3.out (HR.out.trans HBM.out) rfl HM3.out
  by_cases h18 : k = 18
  · have e18 : (k == 18) = true := by simpa using h18
    have e14 : (k == 14) = false := by rw [h18]; decide
    have e20 : (k == 20) = false := by rw [h18]; decide
    have e21 : (k == 21) = false := by rw [h18]; decide
    have e19 : (k == 19) = false := by rw [h18]; decide
    have e4 : (k == 4) = false := by rw [h18]; decide
    have e5 : (k == 5) = false := by rw [h18]; decide
    have e17 : (k == 17) = false := by rw [h18]; decide
    have e0 : (k == 0) = false := by rw [h18]; decide
    have e9 : (k == 9) = false := by rw [h18]; decide
    have e15 : (k == 15) = false := by rw [h18]; decide
    have e16 : (k == 16) = false := by rw [h18]; decide
    have e6 : (k == 6) = false := by rw [h18]; decide
    have e1 : (k == 1) = false := by rw [h18]; decide
    have HR := Lib.hid (show afterM ⟨6, ne, ⟨mo, no, sg⟩, bl⟩ ⟨k, tx, n, a, b⟩ = some ⟨9, ne + 1, ⟨mo, no, sg⟩, bl⟩ from by unfold afterM; simp [h18])
    clear h14 h20 h21 h18
    have hwn : IntKind.i64.wrap ((ne : Int) + 1) = (ne : Int) + 1 := IntWalk.i64_in _ (by omega)
    go_enter Tryd.func83, Tryd.ntmps83
    go_wp2
    go_ret
    have g1 := H.out.set_ 1 (.int .i64 ((ne : Int) + 1)) ⟨6, ne + 1, ⟨mo, no, sg⟩, bl⟩ (by show _ = #[_, Value.int .i64 ((ne + 1 : Nat) : Int), _, _, _, _]; rw [show ((ne + 1 : Nat) : Int) = (ne : Int) + 1 from rfl]; rfl) rfl
    have g2 := g1.set_ 0 (.int .i64 9) ⟨9, ne + 1, ⟨mo, no, sg⟩, bl⟩ (by rfl) rfl
    exact StRet.good ((((Below.refl B w).setCell (p := ⟨mb, 1, none⟩) H.out.hm _).setCell (p := ⟨mb, 0, none⟩) H.out.hm _).alloc (by rw [set_size, set_size]; exact hBw) _) HR.out rfl (g2.alloc _)
  by_cases h19 : k = 19
  · have e19 : (k == 19) = true := by simpa using h19
    have e14 : (k == 14) = false := by rw [h19]; decide
    have e20 : (k == 20) = false := by rw [h19]; decide
    have e21 : (k == 21) = false := by rw [h19]; decide
    have e18 : (k == 18) = false := by rw [h19]; decide
    have e4 : (k == 4) = false := by rw [h19]; decide
    have e5 : (k == 5) = false := by rw [h19]; decide
    have e17 : (k == 17) = false := by rw [h19]; decide
    have e0 : (k == 0) = false := by rw [h19]; decide
    have e9 : (k == 9) = false := by rw [h19]; decide
    have e15 : (k == 15) = false := by rw [h19]; decide
    have e16 : (k == 16) = false := by rw [h19]; decide
    have e6 : (k == 6) = false := by rw [h19]; decide
    have e1 : (k == 1) = false := by rw [h19]; decide
    have HR := Lib.hid (show afterM ⟨6, ne, ⟨mo, no, sg⟩, bl⟩ ⟨k, tx, n, a, b⟩ = some ⟨9, ne + 1, ⟨mo, no, sg⟩, bl⟩ from by unfold afterM; simp [h19])
    clear h14 h20 h21 h18 h19
    have hwn : IntKind.i64.wrap ((ne : Int) + 1) = (ne : Int) + 1 := IntWalk.i64_in _ (by omega)
    go_enter Tryd.func83, Tryd.ntmps83
    go_wp2
    go_ret
    have g1 := H.out.set_ 1 (.int .i64 ((ne : Int) + 1)) ⟨6, ne + 1, ⟨mo, no, sg⟩, bl⟩ (by show _ = #[_, Value.int .i64 ((ne + 1 : Nat) : Int), _, _, _, _]; rw [show ((ne + 1 : Nat) : Int) = (ne : Int) + 1 from rfl]; rfl) rfl
    have g2 := g1.set_ 0 (.int .i64 9) ⟨9, ne + 1, ⟨mo, no, sg⟩, bl⟩ (by rfl) rfl
    exact StRet.good ((((Below.refl B w).setCell (p := ⟨mb, 1, none⟩) H.out.hm _).setCell (p := ⟨mb, 0, none⟩) H.out.hm _).alloc (by rw [set_size, set_size]; exact hBw) _) HR.out rfl (g2.alloc _)
  by_cases h4 : k = 4
  · have e4 : (k == 4) = true := by simpa using h4
    have e14 : (k == 14) = false := by rw [h4]; decide
    have e20 : (k == 20) = false := by rw [h4]; decide
    have e21 : (k == 21) = false := by rw [h4]; decide
    have e18 : (k == 18) = false := by rw [h4]; decide
    have e19 : (k == 19) = false := by rw [h4]; decide
    have e5 : (k == 5) = false := by rw [h4]; decide
    have e17 : (k == 17) = false := by rw [h4]; decide
    have e0 : (k == 0) = false := by rw [h4]; decide
    have e9 : (k == 9) = false := by rw [h4]; decide
    have e15 : (k == 15) = false := by rw [h4]; decide
    have e16 : (k == 16) = false := by rw [h4]; decide
    have e6 : (k == 6) = false := by rw [h4]; decide
    have e1 : (k == 1) = false := by rw [h4]; decide
    have hCL := close_kept (w.alloc (.cells #[.int .i64 k, .string (str tx), .int .i64 n, .int .i64 a, .int .i64 b] 49)) B mb _ ⟨6, ne, ⟨mo, no, sg⟩, bl⟩ HM.out HB.out
    have HCL := Lib.hid hCL
    clear hCL
    cases hsg : sg with
    | true =>
      subst hsg
      have HR := Lib.hid (show afterM ⟨6, ne, ⟨mo, no, true⟩, bl⟩ ⟨k, tx, n, a, b⟩ = none from by unfold afterM; simp [h4])
      clear h14 h20 h21 h18 h19 h4
      go_enter Tryd.func83, Tryd.ntmps83
      go_wp2_with fail
      refine HCL.out.mono ?_
      rintro e w2 ⟨rfl, hb2, hm2, hk2⟩
      have HX2 := Lib.hid (HX.out.trans hb2); have HM2 := Lib.hid hm2
      clear hb2 hm2 hk2
      obtain ⟨-, ⟨q0, q1, q2, q3, q4, q5⟩, hlt2⟩ := HM2.out.facts
      obtain ⟨⟨d0, d1, d2, d3, d4, d5⟩, -, -⟩ := HM2.out.facts
      simp only [Mc.close] at d0 d1 d2 d3 d4 d5
      go_wp2
      go_ret
      exact StRet.bad (HX2.out.setCell (p := ⟨mb, 0, none⟩) H.out.hm _) HR.out rfl
    | false =>
      subst hsg
      have HR := Lib.hid (show afterM ⟨6, ne, ⟨mo, no, false⟩, bl⟩ ⟨k, tx, n, a, b⟩ = some (Mc.to (Mc.close ⟨6, ne, ⟨mo, no, false⟩, bl⟩) 1) from by unfold afterM; simp [h4])
      clear h14 h20 h21 h18 h19 h4
      go_enter Tryd.func83, Tryd.ntmps83
      go_wp2_with fail
      refine HCL.out.mono ?_
      rintro e w2 ⟨rfl, hb2, hm2, hk2⟩
      have HX2 := Lib.hid (HX.out.trans hb2); have HM2 := Lib.hid hm2
      clear hb2 hm2 hk2
      obtain ⟨-, ⟨q0, q1, q2, q3, q4, q5⟩, hlt2⟩ := HM2.out.facts
      obtain ⟨⟨d0, d1, d2, d3, d4, d5⟩, -, -⟩ := HM2.out.facts
      simp only [Mc.close] at d0 d1 d2 d3 d4 d5
      go_wp2
      go_ret
      exact StRet.good (HX2.out.setCell (p := ⟨mb, 0, none⟩) H.out.hm _) HR.out rfl (HM2.out.setState 1)
  by_cases h5 : k = 5
  · have e5 : (k == 5) = true := by simpa using h5
    have e14 : (k == 14) = false := by rw [h5]; decide
    have e20 : (k == 20) = false := by rw [h5]; decide
    have e21 : (k == 21) = false := by rw [h5]; decide
    have e18 : (k == 18) = false := by rw [h5]; decide
    have e19 : (k == 19) = false := by rw [h5]; decide
    have e4 : (k == 4) = false := by rw [h5]; decide
    have e17 : (k == 17) = false := by rw [h5]; decide
    have e0 : (k == 0) = false := by rw [h5]; decide
    have e9 : (k == 9) = false := by rw [h5]; decide
    have e15 : (k == 15) = false := by rw [h5]; decide
    have e16 : (k == 16) = false := by rw [h5]; decide
    have e6 : (k == 6) = false := by rw [h5]; decide
    have e1 : (k == 1) = false := by rw [h5]; decide
    have hCL := close_kept (w.alloc (.cells #[.int .i64 k, .string (str tx), .int .i64 n, .int .i64 a, .int .i64 b] 49)) B mb _ ⟨6, ne, ⟨mo, no, sg⟩, bl⟩ HM.out HB.out
    have HCL := Lib.hid hCL
    clear hCL
    cases hsg : sg with
    | true =>
      subst hsg
      have HR := Lib.hid (show afterM ⟨6, ne, ⟨mo, no, true⟩, bl⟩ ⟨k, tx, n, a, b⟩ = none from by unfold afterM; simp [h5])
      clear h14 h20 h21 h18 h19 h4 h5
      go_enter Tryd.func83, Tryd.ntmps83
      go_wp2_with fail
      refine HCL.out.mono ?_
      rintro e w2 ⟨rfl, hb2, hm2, hk2⟩
      have HX2 := Lib.hid (HX.out.trans hb2); have HM2 := Lib.hid hm2
      clear hb2 hm2 hk2
      obtain ⟨-, ⟨q0, q1, q2, q3, q4, q5⟩, hlt2⟩ := HM2.out.facts
      obtain ⟨⟨d0, d1, d2, d3, d4, d5⟩, -, -⟩ := HM2.out.facts
      simp only [Mc.close] at d0 d1 d2 d3 d4 d5
      go_wp2
      go_ret
      exact StRet.bad (HX2.out.setCell (p := ⟨mb, 0, none⟩) H.out.hm _) HR.out rfl
    | false =>
      subst hsg
      have HR := Lib.hid (show afterM ⟨6, ne, ⟨mo, no, false⟩, bl⟩ ⟨k, tx, n, a, b⟩ = some (Mc.to (Mc.close ⟨6, ne, ⟨mo, no, false⟩, bl⟩) 1) from by unfold afterM; simp [h5])
      clear h14 h20 h21 h18 h19 h4 h5
      go_enter Tryd.func83, Tryd.ntmps83
      go_wp2_with fail
      refine HCL.out.mono ?_
      rintro e w2 ⟨rfl, hb2, hm2, hk2⟩
      have HX2 := Lib.hid (HX.out.trans hb2); have HM2 := Lib.hid hm2
      clear hb2 hm2 hk2
      obtain ⟨-, ⟨q0, q1, q2, q3, q4, q5⟩, hlt2⟩ := HM2.out.facts
      obtain ⟨⟨d0, d1, d2, d3, d4, d5⟩, -, -⟩ := HM2.out.facts
      simp only [Mc.close] at d0 d1 d2 d3 d4 d5
      go_wp2
      go_ret
      exact StRet.good (HX2.out.setCell (p := ⟨mb, 0, none⟩) H.out.hm _) HR.out rfl (HM2.out.setState 1)
  by_cases h17 : k = 17
  · have e17 : (k == 17) = true := by simpa using h17
    have e14 : (k == 14) = false := by rw [h17]; decide
    have e20 : (k == 20) = false := by rw [h17]; decide
    have e21 : (k == 21) = false := by rw [h17]; decide
    have e18 : (k == 18) = false := by rw [h17]; decide
    have e19 : (k == 19) = false := by rw [h17]; decide
    have e4 : (k == 4) = false := by rw [h17]; decide
    have e5 : (k == 5) = false := by rw [h17]; decide
    have e0 : (k == 0) = false := by rw [h17]; decide
    have e9 : (k == 9) = false := by rw [h17]; decide
    have e15 : (k == 15) = false := by rw [h17]; decide
    have e16 : (k == 16) = false := by rw [h17]; decide
    have e6 : (k == 6) = false := by rw [h17]; decide
    have e1 : (k == 1) = false := by rw [h17]; decide
    have hCL := close_kept (w.alloc (.cells #[.int .i64 k, .string (str tx), .int .i64 n, .int .i64 a, .int .i64 b] 49)) B mb _ ⟨6, ne, ⟨mo, no, sg⟩, bl⟩ HM.out HB.out
    have HCL := Lib.hid hCL
    clear hCL
    cases hsg : sg with
    | true =>
      subst hsg
      have HR := Lib.hid (show afterM ⟨6, ne, ⟨mo, no, true⟩, bl⟩ ⟨k, tx, n, a, b⟩ = none from by unfold afterM; simp [h17])
      clear h14 h20 h21 h18 h19 h4 h5 h17
      go_enter Tryd.func83, Tryd.ntmps83
      go_wp2_with fail
      refine HCL.out.mono ?_
      rintro e w2 ⟨rfl, hb2, hm2, hk2⟩
      have HX2 := Lib.hid (HX.out.trans hb2); have HM2 := Lib.hid hm2
      clear hb2 hm2 hk2
      obtain ⟨-, ⟨q0, q1, q2, q3, q4, q5⟩, hlt2⟩ := HM2.out.facts
      obtain ⟨⟨d0, d1, d2, d3, d4, d5⟩, -, -⟩ := HM2.out.facts
      simp only [Mc.close] at d0 d1 d2 d3 d4 d5
      go_wp2
      go_ret
      exact StRet.bad (HX2.out.setCell (p := ⟨mb, 0, none⟩) H.out.hm _) HR.out rfl
    | false =>
      subst hsg
      have HR := Lib.hid (show afterM ⟨6, ne, ⟨mo, no, false⟩, bl⟩ ⟨k, tx, n, a, b⟩ = some (Mc.to (Mc.close ⟨6, ne, ⟨mo, no, false⟩, bl⟩) 1) from by unfold afterM; simp [h17])
      clear h14 h20 h21 h18 h19 h4 h5 h17
      go_enter Tryd.func83, Tryd.ntmps83
      go_wp2_with fail
      refine HCL.out.mono ?_
      rintro e w2 ⟨rfl, hb2, hm2, hk2⟩
      have HX2 := Lib.hid (HX.out.trans hb2); have HM2 := Lib.hid hm2
      clear hb2 hm2 hk2
      obtain ⟨-, ⟨q0, q1, q2, q3, q4, q5⟩, hlt2⟩ := HM2.out.facts
      obtain ⟨⟨d0, d1, d2, d3, d4, d5⟩, -, -⟩ := HM2.out.facts
      simp only [Mc.close] at d0 d1 d2 d3 d4 d5
      go_wp2
      go_ret
      exact StRet.good (HX2.out.setCell (p := ⟨mb, 0, none⟩) H.out.hm _) HR.out rfl (HM2.out.setState 1)
  by_cases h0 : k = 0
  · have e0 : (k == 0) = true := by simpa using h0
    have e14 : (k == 14) = false := by rw [h0]; decide
    have e20 : (k == 20) = false := by rw [h0]; decide
    have e21 : (k == 21) = false := by rw [h0]; decide
    have e18 : (k == 18) = false := by rw [h0]; decide
    have e19 : (k == 19) = false := by rw [h0]; decide
    have e4 : (k == 4) = false := by rw [h0]; decide
    have e5 : (k == 5) = false := by rw [h0]; decide
    have e17 : (k == 17) = false := by rw [h0]; decide
    have e9 : (k == 9) = false := by rw [h0]; decide
    have e15 : (k == 15) = false := by rw [h0]; decide
    have e16 : (k == 16) = false := by rw [h0]; decide
    have e6 : (k == 6) = false := by rw [h0]; decide
    have e1 : (k == 1) = false := by rw [h0]; decide
    have hCL := close_kept (w.alloc (.cells #[.int .i64 k, .string (str tx), .int .i64 n, .int .i64 a, .int .i64 b] 49)) B mb _ ⟨6, ne, ⟨mo, no, sg⟩, bl⟩ HM.out HB.out
    have HCL := Lib.hid hCL
    clear hCL
    cases hbl : bl with
    | nil =>
      subst hbl
      have HR := Lib.hid (show afterM ⟨6, ne, ⟨mo, no, sg⟩, []⟩ ⟨k, tx, n, a, b⟩ = some (Mc.to (Mc.close ⟨6, ne, ⟨mo, no, sg⟩, []⟩) 14) from by unfold afterM; simp [h0])
      clear h14 h20 h21 h18 h19 h4 h5 h17 h0
      go_enter Tryd.func83, Tryd.ntmps83
      go_wp2_with fail
      refine HCL.out.mono ?_
      rintro e w2 ⟨rfl, hb2, hm2, hk2⟩
      have HX2 := Lib.hid (HX.out.trans hb2); have HM2 := Lib.hid hm2
      clear hb2 hm2 hk2
      obtain ⟨-, ⟨q0, q1, q2, q3, q4, q5⟩, hlt2⟩ := HM2.out.facts
      obtain ⟨⟨d0, d1, d2, d3, d4, d5⟩, -, -⟩ := HM2.out.facts
      simp only [Mc.close] at d0 d1 d2 d3 d4 d5
      go_wp2
      go_ret
      exact StRet.good (HX2.out.setCell (p := ⟨mb, 0, none⟩) H.out.hm _) HR.out rfl (HM2.out.setState 14)
    | cons x bl2 =>
      subst hbl
      have HR := Lib.hid (show afterM ⟨6, ne, ⟨mo, no, sg⟩, x :: bl2⟩ ⟨k, tx, n, a, b⟩ = none from by unfold afterM; simp [h0])
      have hln : ((((x :: bl2).length : Nat) : Int) == 0) = false := by simp; omega
      clear h14 h20 h21 h18 h19 h4 h5 h17 h0
      go_enter Tryd.func83, Tryd.ntmps83
      go_wp2_with fail
      refine HCL.out.mono ?_
      rintro e w2 ⟨rfl, hb2, hm2, hk2⟩
      have HX2 := Lib.hid (HX.out.trans hb2); have HM2 := Lib.hid hm2
      clear hb2 hm2 hk2
      obtain ⟨-, ⟨q0, q1, q2, q3, q4, q5⟩, hlt2⟩ := HM2.out.facts
      obtain ⟨⟨d0, d1, d2, d3, d4, d5⟩, -, -⟩ := HM2.out.facts
      simp only [Mc.close] at d0 d1 d2 d3 d4 d5
      go_wp2
      go_ret
      exact StRet.bad (HX2.out.setCell (p := ⟨mb, 0, none⟩) H.out.hm _) HR.out rfl
  by_cases h9 : k = 9
  · have e9 : (k == 9) = true := by simpa using h9
    have e14 : (k == 14) = false := by rw [h9]; decide
    have e20 : (k == 20) = false := by rw [h9]; decide
    have e21 : (k == 21) = false := by rw [h9]; decide
    have e18 : (k == 18) = false := by rw [h9]; decide
    have e19 : (k == 19) = false := by rw [h9]; decide
    have e4 : (k == 4) = false := by rw [h9]; decide
    have e5 : (k == 5) = false := by rw [h9]; decide
    have e17 : (k == 17) = false := by rw [h9]; decide
    have e0 : (k == 0) = false := by rw [h9]; decide
    have e15 : (k == 15) = false := by rw [h9]; decide
    have e16 : (k == 16) = false := by rw [h9]; decide
    have e6 : (k == 6) = false := by rw [h9]; decide
    have e1 : (k == 1) = false := by rw [h9]; decide
    have HR := Lib.hid (show afterM ⟨6, ne, ⟨mo, no, sg⟩, bl⟩ ⟨k, tx, n, a, b⟩ = shutM ⟨6, ne, ⟨mo, no, sg⟩, bl⟩ from by unfold afterM; simp [h9])
    have hSH := shut_any (w.alloc (.cells #[.int .i64 k, .string (str tx), .int .i64 n, .int .i64 a, .int .i64 b] 49)) B mb _ ⟨6, ne, ⟨mo, no, sg⟩, bl⟩ HM.out HB.out
    have HSH := Lib.hid hSH
    clear h14 h20 h21 h18 h19 h4 h5 h17 h0 h9 hSH
    go_enter Tryd.func83, Tryd.ntmps83
    go_wp2_with fail
    refine HSH.out.mono ?_
    intro e w3 h3
    cases hbm : shutM ⟨6, ne, ⟨mo, no, sg⟩, bl⟩ with
    | none =>
      unfold StRet at h3; rw [hbm] at h3
      obtain ⟨hb3, rfl⟩ := h3
      have HB3 := Lib.hid (HX.out.trans hb3)
      have HBM := Lib.hid hbm; clear hb3 hbm
      go_wp2
      go_ret
      exact StRet.bad HB3.out (HR.out.trans HBM.out) rfl
    | some m2 =>
      unfold StRet at h3; rw [hbm] at h3
      obtain ⟨hb3, rfl, v2, hm3⟩ := h3
      have HB3 := Lib.hid (HX.out.trans hb3); have HM3 := Lib.hid hm3
      have HBM := Lib.hid hbm; clear hb3 hm3 hbm
      go_wp2
      go_ret
      exact StRet.good HB3.out (HR.out.trans HBM.out) rfl HM3.out
  have e14 : (k == 14) = false := by simpa using h14
  have e20 : (k == 20) = false := by simpa using h20
  have e21 : (k == 21) = false := by simpa using h21
  have e18 : (k == 18) = false := by simpa using h18
  have e19 : (k == 19) = false := by simpa using h19
  have e4 : (k == 4) = false := by simpa using h4
  have e5 : (k == 5) = false := by simpa using h5
  have e17 : (k == 17) = false := by simpa using h17
  have e0 : (k == 0) = false := by simpa using h0
  have e9 : (k == 9) = false := by simpa using h9
  have hCL := close_kept (w.alloc (.cells #[.int .i64 k, .string (str tx), .int .i64 n, .int .i64 a, .int .i64 b] 49)) B mb _ ⟨6, ne, ⟨mo, no, sg⟩, bl⟩ HM.out HB.out
  have HCL := Lib.hid hCL
  clear hCL
  have HR := Lib.hid (show afterM ⟨6, ne, ⟨mo, no, sg⟩, bl⟩ ⟨k, tx, n, a, b⟩ = clauseM ((Mc.close ⟨6, ne, ⟨mo, no, sg⟩, bl⟩).to 0) ⟨k, tx, n, a, b⟩ from by unfold afterM; simp [h14, h20, h21, h18, h19, h4, h5, h17, h0, h9])
  clear h14 h20 h21 h18 h19 h4 h5 h17 h0 h9
  go_enter Tryd.func83, Tryd.ntmps83
  go_wp2_with fail
  refine HCL.out.mono ?_
  rintro e w2 ⟨rfl, hb2, hm2, hk2⟩
  have HX2 := Lib.hid (HX.out.trans hb2); have HM2 := Lib.hid hm2
  have HT2 := Lib.hid (hk2 _ _ _ (by omega) HT.out)
  clear hb2 hm2 hk2
  obtain ⟨-, ⟨q0, q1, q2, q3, q4, q5⟩, hlt2⟩ := HM2.out.facts
  obtain ⟨⟨d0, d1, d2, d3, d4, d5⟩, -, -⟩ := HM2.out.facts
  simp only [Mc.close] at d0 d1 d2 d3 d4 d5
  have hB0 : McB ((Mc.close ⟨6, ne, ⟨mo, no, sg⟩, bl⟩).to 0) := by
    have := HB.out.most
    exact ⟨Nat.zero_le _, Nat.max_le.2 ⟨this, hc⟩, Nat.zero_le _, HB.out.below⟩
  have hCA := step_clause_any ⟨k, tx, n, a, b⟩ _ B mb _ _ (HM2.out.setState 0) hB0 rfl
  have HCA := Lib.hid hCA
  have hT0 := HT2.out.far (p := ⟨mb, 0, none⟩) (by show w.heap.size ≠ mb; omega) (.int .i64 0)
  have k0 := HT2.out.cell 0; have k1 := HT2.out.cell 1; have k2 := HT2.out.cell 2; have k3 := HT2.out.cell 3; have k4 := HT2.out.cell 4
  simp only [List.getElem?_toArray, List.getElem?_cons_zero, List.getElem?_cons_succ] at k0 k1 k2 k3 k4
  have hg1 : ¬ w.heap.size = mb := by omega
  have hg2 : ¬ mb = w.heap.size := by omega
  clear hCA hT0 hB0
  go_wp2_with fail
  refine HCA.out.mono ?_
  intro e w3 h3
  cases hbm : clauseM ((Mc.close ⟨6, ne, ⟨mo, no, sg⟩, bl⟩).to 0) ⟨k, tx, n, a, b⟩ with
  | none =>
    unfold StRet at h3; rw [hbm] at h3
    obtain ⟨hb3, rfl⟩ := h3
    have HB3 := Lib.hid ((HX2.out.setCell (p := ⟨mb, 0, none⟩) H.out.hm _).trans hb3)
    have HBM := Lib.hid hbm; clear hb3 hbm
    go_wp2
    go_ret
    exact StRet.bad HB3.out (HR.out.trans HBM.out) rfl
  | some m2 =>
    unfold StRet at h3; rw [hbm] at h3
    obtain ⟨hb3, rfl, v2, hm3⟩ := h3
    have HB3 := Lib.hid ((HX2.out.setCell (p := ⟨mb, 0, none⟩) H.out.hm _).trans hb3); have HM3 := Lib.hid hm3
    have HBM := Lib.hid hbm; clear hb3 hm3 hbm
    go_wp2
    go_ret
    exact StRet.good HB3.out (HR.out.trans HBM.out) rfl HM3.out
end Go.Proofs.YtcomdkejpaoneaaDoor
end
