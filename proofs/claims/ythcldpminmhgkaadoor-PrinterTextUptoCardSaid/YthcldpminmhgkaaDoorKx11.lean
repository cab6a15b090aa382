/- Merged for a claim by shake.py: Mf -/
import Derived.Test.YthcldpminmhgkaaDoorKxA
import Derived.Test.YthcldpminmhgkaaDoorKx10
set_option maxRecDepth 100000
set_option maxHeartbeats 8000000
set_option linter.unusedSimpArgs false
set_option linter.unusedVariables false
section
namespace Go.Proofs.YthcldpminmhgkaaDoor
open Go.RowKit
theorem after_c14 (k : Int) (tx : List UInt8) (n a b : Int) (w : World) (B mb : Nat) (v : Value) (m : Mc) (h : McAt w B mb v m) (hb : McB m) (hc : m.at_.nots + m.nest ≤ 940000000000) (hs : m.state = 4 ∨ m.state = 6) (h14 : k = 14) :
  Calls Tryd.prog 89 #[.pointer (some ⟨mb, 0, none⟩), ltVal ⟨k, tx, n, a, b⟩] w (StRet B mb w (afterM m ⟨k, tx, n, a, b⟩)) := by
 obtain ⟨A, cap, hv, hc1, hc2⟩ := h.own.form
 subst hv
 obtain ⟨-, ⟨f0, f1, f2, f3, f4, f5⟩, hlt⟩ := h.facts
 obtain ⟨⟨c0, c1, c2, c3, c4, c5⟩, -, -⟩ := h.facts
 have hno : m.at_.nots ≤ 940000000000 := hb.nots
 have hne : m.nest ≤ 940000000000 := hb.nest
 have H := LH h; have HB := LH hb
 have hBw := h.hB
 clear h hb
 unfold ltVal
 simp only []
 have hM := H.out.alloc (.cells #[.int .i64 k, .string (str tx), .int .i64 n, .int .i64 a, .int .i64 b] 74)
 have hX : Below B w (w.alloc (.cells #[.int .i64 k, .string (str tx), .int .i64 n, .int .i64 a, .int .i64 b] 74)) := (Below.refl B w).alloc hBw _
 have hT := Blk.new w 74 #[.int .i64 k, .string (str tx), .int .i64 n, .int .i64 a, .int .i64 b]
 have HM := LH hM; have HX := LH hX; have HT := LH hT
 clear hM hX hT
 have e14 : (k == 14) = true := by simpa using h14
 have e20 : (k == 20) = false := by rw [h14]; decide
 have e21 : (k == 21) = false := by rw [h14]; decide
 have e18 : (k == 18) = false := by rw [h14]; decide
 have e19 : (k == 19) = false := by rw [h14]; decide
 have e4 : (k == 4) = false := by rw [h14]; decide
 have e5 : (k == 5) = false := by rw [h14]; decide
 have e17 : (k == 17) = false := by rw [h14]; decide
 have e0 : (k == 0) = false := by rw [h14]; decide
 have e9 : (k == 9) = false := by rw [h14]; decide
 have e15 : (k == 15) = false := by rw [h14]; decide
 have e16 : (k == 16) = false := by rw [h14]; decide
 have e6 : (k == 6) = false := by rw [h14]; decide
 have e1 : (k == 1) = false := by rw [h14]; decide
 rcases hs with hs | hs
 ·skip
  have HR := LH (show afterM m ⟨k, tx, n, a, b⟩ = some (m.to 2) from by unfold afterM; simp [h14, hs])
  clear h14
  have HS := LH hs
  rw [hs] at c0
  clear hs
  go_enter Tryd.func89, Tryd.ntmps89
  go_wp2
  go_ret
  exact StRet.good (((Below.refl B w).setCell (p := ⟨mb, 0, none⟩) H.out.hm _).alloc (by rw [set_size]; exact hBw) _) HR.out rfl ((H.out.setState 2).alloc _)
 ·skip
  have HR := LH (show afterM m ⟨k, tx, n, a, b⟩ = some (m.to 3) from by unfold afterM; simp [h14, hs])
  clear h14
  have HS := LH hs
  rw [hs] at c0
  clear hs
  go_enter Tryd.func89, Tryd.ntmps89
  go_wp2
  go_ret
  exact StRet.good (((Below.refl B w).setCell (p := ⟨mb, 0, none⟩) H.out.hm _).alloc (by rw [set_size]; exact hBw) _) HR.out rfl ((H.out.setState 3).alloc _)
theorem after_c20 (k : Int) (tx : List UInt8) (n a b : Int) (w : World) (B mb : Nat) (v : Value) (m : Mc) (h : McAt w B mb v m) (hb : McB m) (hc : m.at_.nots + m.nest ≤ 940000000000) (hs : m.state = 4 ∨ m.state = 5 ∨ m.state = 6 ∨ m.state = 7 ∨ m.state = 8 ∨ m.state = 9) (h20 : k = 20) :
  Calls Tryd.prog 89 #[.pointer (some ⟨mb, 0, none⟩), ltVal ⟨k, tx, n, a, b⟩] w (StRet B mb w (afterM m ⟨k, tx, n, a, b⟩)) := by
 obtain ⟨A, cap, hv, hc1, hc2⟩ := h.own.form
 subst hv
 obtain ⟨-, ⟨f0, f1, f2, f3, f4, f5⟩, hlt⟩ := h.facts
 obtain ⟨⟨c0, c1, c2, c3, c4, c5⟩, -, -⟩ := h.facts
 have hno : m.at_.nots ≤ 940000000000 := hb.nots
 have hne : m.nest ≤ 940000000000 := hb.nest
 have H := LH h; have HB := LH hb
 have hBw := h.hB
 clear h hb
 unfold ltVal
 simp only []
 have hM := H.out.alloc (.cells #[.int .i64 k, .string (str tx), .int .i64 n, .int .i64 a, .int .i64 b] 74)
 have hX : Below B w (w.alloc (.cells #[.int .i64 k, .string (str tx), .int .i64 n, .int .i64 a, .int .i64 b] 74)) := (Below.refl B w).alloc hBw _
 have hT := Blk.new w 74 #[.int .i64 k, .string (str tx), .int .i64 n, .int .i64 a, .int .i64 b]
 have HM := LH hM; have HX := LH hX; have HT := LH hT
 clear hM hX hT
 have e14 : (k == 14) = false := by rw [h20]; decide
 have e20 : (k == 20) = true := by simpa using h20
 have e21 : (k == 21) = false := by rw [h20]; decide
 have e18 : (k == 18) = false := by rw [h20]; decide
 have e19 : (k == 19) = false := by rw [h20]; decide
 have e4 : (k == 4) = false := by rw [h20]; decide
 have e5 : (k == 5) = false := by rw [h20]; decide
 have e17 : (k == 17) = false := by rw [h20]; decide
 have e0 : (k == 0) = false := by rw [h20]; decide
 have e9 : (k == 9) = false := by rw [h20]; decide
 have e15 : (k == 15) = false := by rw [h20]; decide
 have e16 : (k == 16) = false := by rw [h20]; decide
 have e6 : (k == 6) = false := by rw [h20]; decide
 have e1 : (k == 1) = false := by rw [h20]; decide
 by_cases h45 : m.state = 4 ∨ m.state = 5
 ·clear hs
  rcases h45 with hs | hs
  all_goals
   by_cases nm1 : n = (-1)
   ·have dm1 : (n == (-1)) = true := by simpa using nm1
    have HR := LH (show afterM m ⟨k, tx, n, a, b⟩ = some (m.to 9) from by unfold afterM; simp [h20, nm1, hs])
    clear h20  nm1
    have HS := LH hs
    rw [hs] at c0
    clear hs
    go_enter Tryd.func89, Tryd.ntmps89
    go_wp2
    go_ret
    exact StRet.good (((Below.refl B w).setCell (p := ⟨mb, 0, none⟩) H.out.hm _).alloc (by rw [set_size]; exact hBw) _) HR.out rfl ((H.out.setState 9).alloc _)
   by_cases np1 : n = 1
   ·have dp1 : (n == 1) = true := by simpa using np1
    have dm1 : (n == (-1)) = false := by simpa using nm1
    have HR := LH (show afterM m ⟨k, tx, n, a, b⟩ = some (m.to 9) from by unfold afterM; simp [h20, np1, hs])
    clear h20 nm1 np1
    have HS := LH hs
    rw [hs] at c0
    clear hs
    go_enter Tryd.func89, Tryd.ntmps89
    go_wp2
    go_ret
    exact StRet.good (((Below.refl B w).setCell (p := ⟨mb, 0, none⟩) H.out.hm _).alloc (by rw [set_size]; exact hBw) _) HR.out rfl ((H.out.setState 9).alloc _)
   by_cases np2 : n = 2
   ·have dp2 : (n == 2) = true := by simpa using np2
    have dm1 : (n == (-1)) = false := by simpa using nm1
    have dp1 : (n == 1) = false := by simpa using np1
    have HR := LH (show afterM m ⟨k, tx, n, a, b⟩ = some (m.to 9) from by unfold afterM; simp [h20, np2, hs])
    clear h20 nm1 np1 np2
    have HS := LH hs
    rw [hs] at c0
    clear hs
    go_enter Tryd.func89, Tryd.ntmps89
    go_wp2
    go_ret
    exact StRet.good (((Below.refl B w).setCell (p := ⟨mb, 0, none⟩) H.out.hm _).alloc (by rw [set_size]; exact hBw) _) HR.out rfl ((H.out.setState 9).alloc _)
   have dm1 : (n == (-1)) = false := by simpa using nm1
   have dp1 : (n == 1) = false := by simpa using np1
   have dp2 : (n == 2) = false := by simpa using np2
   have HR := LH (show afterM m ⟨k, tx, n, a, b⟩ = none from by unfold afterM; simp [h20, nm1, np1, np2, hs])
   clear h20 nm1 np1 np2
   have HS := LH hs
   rw [hs] at c0
   clear hs
   go_enter Tryd.func89, Tryd.ntmps89
   go_wp2
   go_ret
   exact StRet.bad (((Below.refl B w).setCell (p := ⟨mb, 0, none⟩) H.out.hm _).alloc (by rw [set_size]; exact hBw) _) HR.out rfl
 by_cases h7 : m.state = 7
 ·clear hs h45
  have hs := h7
  clear h7
  by_cases nn : 0 ≤ n
  ·have dn : decide (n ≥ 0) = true := by simpa using nn
   have HR := LH (show afterM m ⟨k, tx, n, a, b⟩ = some (m.to 9) from by unfold afterM; simp [h20, nn, hs])
   clear h20
   have HS := LH hs
   rw [hs] at c0
   clear hs
   go_enter Tryd.func89, Tryd.ntmps89
   go_wp2
   go_ret
   exact StRet.good (((Below.refl B w).setCell (p := ⟨mb, 0, none⟩) H.out.hm _).alloc (by rw [set_size]; exact hBw) _) HR.out rfl ((H.out.setState 9).alloc _)
  have dn : decide (n ≥ 0) = false := by simpa using nn
  have HR := LH (show afterM m ⟨k, tx, n, a, b⟩ = none from by unfold afterM; simp [h20, hs]; omega)
  clear h20
  have HS := LH hs
  rw [hs] at c0
  clear hs
  go_enter Tryd.func89, Tryd.ntmps89
  go_wp2
  go_ret
  exact StRet.bad (((Below.refl B w).setCell (p := ⟨mb, 0, none⟩) H.out.hm _).alloc (by rw [set_size]; exact hBw) _) HR.out rfl
 have h689 : m.state = 6 ∨ m.state = 8 ∨ m.state = 9 := by omega
 clear hs h45 h7
 rcases h689 with hs | hs | hs
 all_goals
  have HR := LH (show afterM m ⟨k, tx, n, a, b⟩ = none from by unfold afterM; simp [h20, hs])
  clear h20
  have HS := LH hs
  rw [hs] at c0
  clear hs
  go_enter Tryd.func89, Tryd.ntmps89
  go_wp2
  go_ret
  exact StRet.bad (((Below.refl B w).setCell (p := ⟨mb, 0, none⟩) H.out.hm _).alloc (by rw [set_size]; exact hBw) _) HR.out rfl
theorem after_c21 (k : Int) (tx : List UInt8) (n a b : Int) (w : World) (B mb : Nat) (v : Value) (m : Mc) (h : McAt w B mb v m) (hb : McB m) (hc : m.at_.nots + m.nest ≤ 940000000000) (hs : m.state = 8) (h21 : k = 21) :
  Calls Tryd.prog 89 #[.pointer (some ⟨mb, 0, none⟩), ltVal ⟨k, tx, n, a, b⟩] w (StRet B mb w (afterM m ⟨k, tx, n, a, b⟩)) := by
 obtain ⟨A, cap, hv, hc1, hc2⟩ := h.own.form
 subst hv
 obtain ⟨-, ⟨f0, f1, f2, f3, f4, f5⟩, hlt⟩ := h.facts
 obtain ⟨⟨c0, c1, c2, c3, c4, c5⟩, -, -⟩ := h.facts
 have hno : m.at_.nots ≤ 940000000000 := hb.nots
 have hne : m.nest ≤ 940000000000 := hb.nest
 have H := LH h; have HB := LH hb
 have hBw := h.hB
 clear h hb
 unfold ltVal
 simp only []
 have hM := H.out.alloc (.cells #[.int .i64 k, .string (str tx), .int .i64 n, .int .i64 a, .int .i64 b] 74)
 have hX : Below B w (w.alloc (.cells #[.int .i64 k, .string (str tx), .int .i64 n, .int .i64 a, .int .i64 b] 74)) := (Below.refl B w).alloc hBw _
 have hT := Blk.new w 74 #[.int .i64 k, .string (str tx), .int .i64 n, .int .i64 a, .int .i64 b]
 have HM := LH hM; have HX := LH hX; have HT := LH hT
 clear hM hX hT
 have e14 : (k == 14) = false := by rw [h21]; decide
 have e20 : (k == 20) = false := by rw [h21]; decide
 have e21 : (k == 21) = true := by simpa using h21
 have e18 : (k == 18) = false := by rw [h21]; decide
 have e19 : (k == 19) = false := by rw [h21]; decide
 have e4 : (k == 4) = false := by rw [h21]; decide
 have e5 : (k == 5) = false := by rw [h21]; decide
 have e17 : (k == 17) = false := by rw [h21]; decide
 have e0 : (k == 0) = false := by rw [h21]; decide
 have e9 : (k == 9) = false := by rw [h21]; decide
 have e15 : (k == 15) = false := by rw [h21]; decide
 have e16 : (k == 16) = false := by rw [h21]; decide
 have e6 : (k == 6) = false := by rw [h21]; decide
 have e1 : (k == 1) = false := by rw [h21]; decide
 have HR := LH (show afterM m ⟨k, tx, n, a, b⟩ = some (m.to 9) from by unfold afterM; simp [h21, hs])
 clear h21
 have HS := LH hs
 rw [hs] at c0
 clear hs
 go_enter Tryd.func89, Tryd.ntmps89
 go_wp2
 go_ret
 exact StRet.good (((Below.refl B w).setCell (p := ⟨mb, 0, none⟩) H.out.hm _).alloc (by rw [set_size]; exact hBw) _) HR.out rfl ((H.out.setState 9).alloc _)
theorem after_rest (k : Int) (tx : List UInt8) (n a b : Int) (w : World) (B mb : Nat) (v : Value) (m : Mc) (h : McAt w B mb v m) (hb : McB m) (hc : m.at_.nots + m.nest ≤ 940000000000) (hs : m.state = 4 ∨ m.state = 5 ∨ m.state = 6 ∨ m.state = 7 ∨ m.state = 8 ∨ m.state = 9) (x14 : ¬ ((m.state = 4 ∨ m.state = 6) ∧ k = 14)) (h20 : k ≠ 20) (x21 : ¬ (m.state = 8 ∧ k = 21)) :
  Calls Tryd.prog 89 #[.pointer (some ⟨mb, 0, none⟩), ltVal ⟨k, tx, n, a, b⟩] w (StRet B mb w (afterM m ⟨k, tx, n, a, b⟩)) := by
 obtain ⟨A, cap, hv, hc1, hc2⟩ := h.own.form
 subst hv
 obtain ⟨-, ⟨f0, f1, f2, f3, f4, f5⟩, hlt⟩ := h.facts
 obtain ⟨⟨c0, c1, c2, c3, c4, c5⟩, -, -⟩ := h.facts
 have hno : m.at_.nots ≤ 940000000000 := hb.nots
 have hne : m.nest ≤ 940000000000 := hb.nest
 have H := LH h; have HB := LH hb
 have hBw := h.hB
 clear h hb
 unfold ltVal
 simp only []
 have hM := H.out.alloc (.cells #[.int .i64 k, .string (str tx), .int .i64 n, .int .i64 a, .int .i64 b] 74)
 have hX : Below B w (w.alloc (.cells #[.int .i64 k, .string (str tx), .int .i64 n, .int .i64 a, .int .i64 b] 74)) := (Below.refl B w).alloc hBw _
 have hT := Blk.new w 74 #[.int .i64 k, .string (str tx), .int .i64 n, .int .i64 a, .int .i64 b]
 have HM := LH hM; have HX := LH hX; have HT := LH hT
 clear hM hX hT
 by_cases h14 : k = 14
 ·have hs2 : m.state = 5 ∨ m.state = 7 ∨ m.state = 8 ∨ m.state = 9 := by omega
  clear hs x14 x21 h20
  have e14 : (k == 14) = true := by simpa using h14
  have e20 : (k == 20) = false := by rw [h14]; decide
  have e21 : (k == 21) = false := by rw [h14]; decide
  have e18 : (k == 18) = false := by rw [h14]; decide
  have e19 : (k == 19) = false := by rw [h14]; decide
  have e4 : (k == 4) = false := by rw [h14]; decide
  have e5 : (k == 5) = false := by rw [h14]; decide
  have e17 : (k == 17) = false := by rw [h14]; decide
  have e0 : (k == 0) = false := by rw [h14]; decide
  have e9 : (k == 9) = false := by rw [h14]; decide
  have e15 : (k == 15) = false := by rw [h14]; decide
  have e16 : (k == 16) = false := by rw [h14]; decide
  have e6 : (k == 6) = false := by rw [h14]; decide
  have e1 : (k == 1) = false := by rw [h14]; decide
  rcases hs2 with hs | hs | hs | hs
  all_goals
   have HCL := LH (close_kept (w.alloc (.cells #[.int .i64 k, .string (str tx), .int .i64 n, .int .i64 a, .int .i64 b] 74)) B mb _ m HM.out HB.out)
   have HR := LH (show afterM m ⟨k, tx, n, a, b⟩ = clauseM (m.close.to 0) ⟨k, tx, n, a, b⟩ from by unfold afterM; simp [h14, hs])
   clear h14
   have HS := LH hs
   rw [hs] at c0
   clear hs
   go_enter Tryd.func89, Tryd.ntmps89
   go_wp2_with fail
   refine HCL.out.mono ?_
   rintro e w2 ⟨rfl, hb2, hm2, hk2⟩
   have HX2 := LH (HX.out.trans hb2); have HM2 := LH hm2
   have HT2 := LH (hk2 _ _ _ (by omega) HT.out)
   clear hb2 hm2 hk2
   obtain ⟨-, ⟨q0, q1, q2, q3, q4, q5⟩, hlt2⟩ := HM2.out.facts
   obtain ⟨⟨d0, d1, d2, d3, d4, d5⟩, -, -⟩ := HM2.out.facts
   simp only [Mc.close] at d0 d1 d2 d3 d4 d5
   rw [HS.out] at d0
   have hB0 : McB (m.close.to 0) := by
    have := HB.out.most
    exact ⟨Nat.zero_le _, Nat.max_le.2 ⟨this, hc⟩, Nat.zero_le _, HB.out.below⟩
   have HCA := LH (step_clause_any ⟨k, tx, n, a, b⟩ _ B mb _ _ (HM2.out.setState 0) hB0 rfl)
   have hT0 := HT2.out.far (p := ⟨mb, 0, none⟩) (by show w.heap.size ≠ mb; omega) (.int .i64 0)
   have k0 := HT2.out.cell 0; have k1 := HT2.out.cell 1; have k2 := HT2.out.cell 2; have k3 := HT2.out.cell 3; have k4 := HT2.out.cell 4
   simp only [List.getElem?_toArray, List.getElem?_cons_zero, List.getElem?_cons_succ] at k0 k1 k2 k3 k4
   have hg1 : ¬ w.heap.size = mb := by omega
   have hg2 : ¬ mb = w.heap.size := by omega
   clear hT0 hB0
   go_wp2_with fail
   refine HCA.out.mono ?_
   intro e w3 h3
   cases hbm : clauseM (m.close.to 0) ⟨k, tx, n, a, b⟩ with
   | none =>
    unfold StRet at h3; rw [hbm] at h3
    obtain ⟨hb3, rfl⟩ := h3
    have HB3 := LH ((HX2.out.setCell (p := ⟨mb, 0, none⟩) H.out.hm _).trans hb3)
    have HBM := LH hbm; clear hb3 hbm
    go_wp2
    go_ret
    exact StRet.bad HB3.out (HR.out.trans HBM.out) rfl
   | some m2 =>
    unfold StRet at h3; rw [hbm] at h3
    obtain ⟨hb3, rfl, v2, hm3⟩ := h3
    have HB3 := LH ((HX2.out.setCell (p := ⟨mb, 0, none⟩) H.out.hm _).trans hb3); have HM3 := LH hm3
    have HBM := LH hbm; clear hb3 hm3 hbm
    go_wp2
    go_ret
    exact StRet.good HB3.out (HR.out.trans HBM.out) rfl HM3.out
 by_cases h21 : k = 21
 ·have hs2 : m.state = 4 ∨ m.state = 5 ∨ m.state = 6 ∨ m.state = 7 ∨ m.state = 9 := by omega
  clear hs x14 x21 h20 h14
  have e14 : (k == 14) = false := by rw [h21]; decide
  have e20 : (k == 20) = false := by rw [h21]; decide
  have e21 : (k == 21) = true := by simpa using h21
  have e18 : (k == 18) = false := by rw [h21]; decide
  have e19 : (k == 19) = false := by rw [h21]; decide
  have e4 : (k == 4) = false := by rw [h21]; decide
  have e5 : (k == 5) = false := by rw [h21]; decide
  have e17 : (k == 17) = false := by rw [h21]; decide
  have e0 : (k == 0) = false := by rw [h21]; decide
  have e9 : (k == 9) = false := by rw [h21]; decide
  have e15 : (k == 15) = false := by rw [h21]; decide
  have e16 : (k == 16) = false := by rw [h21]; decide
  have e6 : (k == 6) = false := by rw [h21]; decide
  have e1 : (k == 1) = false := by rw [h21]; decide
  rcases hs2 with hs | hs | hs | hs | hs
  all_goals
   have HCL := LH (close_kept (w.alloc (.cells #[.int .i64 k, .string (str tx), .int .i64 n, .int .i64 a, .int .i64 b] 74)) B mb _ m HM.out HB.out)
   have HR := LH (show afterM m ⟨k, tx, n, a, b⟩ = clauseM (m.close.to 0) ⟨k, tx, n, a, b⟩ from by unfold afterM; simp [h21, hs])
   clear h21
   have HS := LH hs
   rw [hs] at c0
   clear hs
   go_enter Tryd.func89, Tryd.ntmps89
   go_wp2_with fail
   refine HCL.out.mono ?_
   rintro e w2 ⟨rfl, hb2, hm2, hk2⟩
   have HX2 := LH (HX.out.trans hb2); have HM2 := LH hm2
   have HT2 := LH (hk2 _ _ _ (by omega) HT.out)
   clear hb2 hm2 hk2
   obtain ⟨-, ⟨q0, q1, q2, q3, q4, q5⟩, hlt2⟩ := HM2.out.facts
   obtain ⟨⟨d0, d1, d2, d3, d4, d5⟩, -, -⟩ := HM2.out.facts
   simp only [Mc.close] at d0 d1 d2 d3 d4 d5
   rw [HS.out] at d0
   have hB0 : McB (m.close.to 0) := by
    have := HB.out.most
    exact ⟨Nat.zero_le _, Nat.max_le.2 ⟨this, hc⟩, Nat.zero_le _, HB.out.below⟩
   have HCA := LH (step_clause_any ⟨k, tx, n, a, b⟩ _ B mb _ _ (HM2.out.setState 0) hB0 rfl)
   have hT0 := HT2.out.far (p := ⟨mb, 0, none⟩) (by show w.heap.size ≠ mb; omega) (.int .i64 0)
   have k0 := HT2.out.cell 0; have k1 := HT2.out.cell 1; have k2 := HT2.out.cell 2; have k3 := HT2.out.cell 3; have k4 := HT2.out.cell 4
   simp only [List.getElem?_toArray, List.getElem?_cons_zero, List.getElem?_cons_succ] at k0 k1 k2 k3 k4
   have hg1 : ¬ w.heap.size = mb := by omega
   have hg2 : ¬ mb = w.heap.size := by omega
   clear hT0 hB0
   go_wp2_with fail
   refine HCA.out.mono ?_
   intro e w3 h3
   cases hbm : clauseM (m.close.to 0) ⟨k, tx, n, a, b⟩ with
   | none =>
    unfold StRet at h3; rw [hbm] at h3
    obtain ⟨hb3, rfl⟩ := h3
    have HB3 := LH ((HX2.out.setCell (p := ⟨mb, 0, none⟩) H.out.hm _).trans hb3)
    have HBM := LH hbm; clear hb3 hbm
    go_wp2
    go_ret
    exact StRet.bad HB3.out (HR.out.trans HBM.out) rfl
   | some m2 =>
    unfold StRet at h3; rw [hbm] at h3
    obtain ⟨hb3, rfl, v2, hm3⟩ := h3
    have HB3 := LH ((HX2.out.setCell (p := ⟨mb, 0, none⟩) H.out.hm _).trans hb3); have HM3 := LH hm3
    have HBM := LH hbm; clear hb3 hm3 hbm
    go_wp2
    go_ret
    exact StRet.good HB3.out (HR.out.trans HBM.out) rfl HM3.out
 clear x14 x21
 rcases hs with hs | hs | hs | hs | hs | hs
 all_goals
  by_cases h18 : k = 18
  ·skip
   have e14 : (k == 14) = false := by rw [h18]; decide
   have e20 : (k == 20) = false := by rw [h18]; decide
   have e21 : (k == 21) = false := by rw [h18]; decide
   have e18 : (k == 18) = true := by simpa using h18
   have e19 : (k == 19) = false := by rw [h18]; decide
   have e4 : (k == 4) = false := by rw [h18]; decide
   have e5 : (k == 5) = false := by rw [h18]; decide
   have e17 : (k == 17) = false := by rw [h18]; decide
   have e0 : (k == 0) = false := by rw [h18]; decide
   have e9 : (k == 9) = false := by rw [h18]; decide
   have e15 : (k == 15) = false := by rw [h18]; decide
   have e16 : (k == 16) = false := by rw [h18]; decide
   have e6 : (k == 6) = false := by rw [h18]; decide
   have e1 : (k == 1) = false := by rw [h18]; decide
   have HR := LH (show afterM m ⟨k, tx, n, a, b⟩ = some ⟨9, m.nest + 1, m.at_, m.below⟩ from by unfold afterM; simp [h18, hs])
   clear h14 h20 h21 h18
   have HS := LH hs
   rw [hs] at c0
   clear hs
   have hwn : IntKind.i64.wrap ((m.nest : Int) + 1) = (m.nest : Int) + 1 := IntWalk.i64_in _ (by omega)
   go_enter Tryd.func89, Tryd.ntmps89
   go_wp2
   go_ret
   have g1 := H.out.set_ 1 (.int .i64 ((m.nest : Int) + 1)) ⟨m.state, m.nest + 1, m.at_, m.below⟩ (by show _ = #[_, Value.int .i64 ((m.nest + 1 : Nat) : Int), _, _, _, _]; rw [show ((m.nest + 1 : Nat) : Int) = (m.nest : Int) + 1 from rfl]; rfl) rfl
   have g2 := g1.set_ 0 (.int .i64 9) ⟨9, m.nest + 1, m.at_, m.below⟩ (by rfl) rfl
   exact StRet.good ((((Below.refl B w).setCell (p := ⟨mb, 1, none⟩) H.out.hm _).setCell (p := ⟨mb, 0, none⟩) H.out.hm _).alloc (by rw [set_size, set_size]; exact hBw) _) HR.out rfl (g2.alloc _)
  by_cases h19 : k = 19
  ·skip
   have e14 : (k == 14) = false := by rw [h19]; decide
   have e20 : (k == 20) = false := by rw [h19]; decide
   have e21 : (k == 21) = false := by rw [h19]; decide
   have e18 : (k == 18) = false := by rw [h19]; decide
   have e19 : (k == 19) = true := by simpa using h19
   have e4 : (k == 4) = false := by rw [h19]; decide
   have e5 : (k == 5) = false := by rw [h19]; decide
   have e17 : (k == 17) = false := by rw [h19]; decide
   have e0 : (k == 0) = false := by rw [h19]; decide
   have e9 : (k == 9) = false := by rw [h19]; decide
   have e15 : (k == 15) = false := by rw [h19]; decide
   have e16 : (k == 16) = false := by rw [h19]; decide
   have e6 : (k == 6) = false := by rw [h19]; decide
   have e1 : (k == 1) = false := by rw [h19]; decide
   have HR := LH (show afterM m ⟨k, tx, n, a, b⟩ = some ⟨9, m.nest + 1, m.at_, m.below⟩ from by unfold afterM; simp [h19, hs])
   clear h14 h20 h21 h18 h19
   have HS := LH hs
   rw [hs] at c0
   clear hs
   have hwn : IntKind.i64.wrap ((m.nest : Int) + 1) = (m.nest : Int) + 1 := IntWalk.i64_in _ (by omega)
   go_enter Tryd.func89, Tryd.ntmps89
   go_wp2
   go_ret
   have g1 := H.out.set_ 1 (.int .i64 ((m.nest : Int) + 1)) ⟨m.state, m.nest + 1, m.at_, m.below⟩ (by show _ = #[_, Value.int .i64 ((m.nest + 1 : Nat) : Int), _, _, _, _]; rw [show ((m.nest + 1 : Nat) : Int) = (m.nest : Int) + 1 from rfl]; rfl) rfl
   have g2 := g1.set_ 0 (.int .i64 9) ⟨9, m.nest + 1, m.at_, m.below⟩ (by rfl) rfl
   exact StRet.good ((((Below.refl B w).setCell (p := ⟨mb, 1, none⟩) H.out.hm _).setCell (p := ⟨mb, 0, none⟩) H.out.hm _).alloc (by rw [set_size, set_size]; exact hBw) _) HR.out rfl (g2.alloc _)
  by_cases h4 : k = 4
  ·skip
   have e14 : (k == 14) = false := by rw [h4]; decide
   have e20 : (k == 20) = false := by rw [h4]; decide
   have e21 : (k == 21) = false := by rw [h4]; decide
   have e18 : (k == 18) = false := by rw [h4]; decide
   have e19 : (k == 19) = false := by rw [h4]; decide
   have e4 : (k == 4) = true := by simpa using h4
   have e5 : (k == 5) = false := by rw [h4]; decide
   have e17 : (k == 17) = false := by rw [h4]; decide
   have e0 : (k == 0) = false := by rw [h4]; decide
   have e9 : (k == 9) = false := by rw [h4]; decide
   have e15 : (k == 15) = false := by rw [h4]; decide
   have e16 : (k == 16) = false := by rw [h4]; decide
   have e6 : (k == 6) = false := by rw [h4]; decide
   have e1 : (k == 1) = false := by rw [h4]; decide
   have HCL := LH (close_kept (w.alloc (.cells #[.int .i64 k, .string (str tx), .int .i64 n, .int .i64 a, .int .i64 b] 74)) B mb _ m HM.out HB.out)
   cases hsg : m.at_.signed with
   | true =>
    have HR := LH (show afterM m ⟨k, tx, n, a, b⟩ = none from by unfold afterM; simp [h4, hsg, hs])
    clear h14 h20 h21 h18 h19 h4
    have HS := LH hs
    rw [hs] at c0
    clear hs
    have HSG := LH hsg
    clear hsg
    go_enter Tryd.func89, Tryd.ntmps89
    go_wp2_with fail
    refine HCL.out.mono ?_
    rintro e w2 ⟨rfl, hb2, hm2, hk2⟩
    have HX2 := LH (HX.out.trans hb2); have HM2 := LH hm2
    clear hb2 hm2 hk2
    obtain ⟨-, ⟨q0, q1, q2, q3, q4, q5⟩, hlt2⟩ := HM2.out.facts
    obtain ⟨⟨d0, d1, d2, d3, d4, d5⟩, -, -⟩ := HM2.out.facts
    simp only [Mc.close] at d0 d1 d2 d3 d4 d5
    rw [HS.out] at d0
    rw [HSG.out] at d4
    go_wp2
    go_ret
    exact StRet.bad (HX2.out.setCell (p := ⟨mb, 0, none⟩) H.out.hm _) HR.out rfl
   | false =>
    have HR := LH (show afterM m ⟨k, tx, n, a, b⟩ = some (m.close.to 1) from by unfold afterM; simp [h4, hsg, hs])
    clear h14 h20 h21 h18 h19 h4
    have HS := LH hs
    rw [hs] at c0
    clear hs
    have HSG := LH hsg
    clear hsg
    go_enter Tryd.func89, Tryd.ntmps89
    go_wp2_with fail
    refine HCL.out.mono ?_
    rintro e w2 ⟨rfl, hb2, hm2, hk2⟩
    have HX2 := LH (HX.out.trans hb2); have HM2 := LH hm2
    clear hb2 hm2 hk2
    obtain ⟨-, ⟨q0, q1, q2, q3, q4, q5⟩, hlt2⟩ := HM2.out.facts
    obtain ⟨⟨d0, d1, d2, d3, d4, d5⟩, -, -⟩ := HM2.out.facts
    simp only [Mc.close] at d0 d1 d2 d3 d4 d5
    rw [HS.out] at d0
    rw [HSG.out] at d4
    go_wp2
    go_ret
    exact StRet.good (HX2.out.setCell (p := ⟨mb, 0, none⟩) H.out.hm _) HR.out rfl (HM2.out.setState 1)
  by_cases h5 : k = 5
  ·skip
   have e14 : (k == 14) = false := by rw [h5]; decide
   have e20 : (k == 20) = false := by rw [h5]; decide
   have e21 : (k == 21) = false := by rw [h5]; decide
   have e18 : (k == 18) = false := by rw [h5]; decide
   have e19 : (k == 19) = false := by rw [h5]; decide
   have e4 : (k == 4) = false := by rw [h5]; decide
   have e5 : (k == 5) = true := by simpa using h5
   have e17 : (k == 17) = false := by rw [h5]; decide
   have e0 : (k == 0) = false := by rw [h5]; decide
   have e9 : (k == 9) = false := by rw [h5]; decide
   have e15 : (k == 15) = false := by rw [h5]; decide
   have e16 : (k == 16) = false := by rw [h5]; decide
   have e6 : (k == 6) = false := by rw [h5]; decide
   have e1 : (k == 1) = false := by rw [h5]; decide
   have HCL := LH (close_kept (w.alloc (.cells #[.int .i64 k, .string (str tx), .int .i64 n, .int .i64 a, .int .i64 b] 74)) B mb _ m HM.out HB.out)
   cases hsg : m.at_.signed with
   | true =>
    have HR := LH (show afterM m ⟨k, tx, n, a, b⟩ = none from by unfold afterM; simp [h5, hsg, hs])
    clear h14 h20 h21 h18 h19 h4 h5
    have HS := LH hs
    rw [hs] at c0
    clear hs
    have HSG := LH hsg
    clear hsg
    go_enter Tryd.func89, Tryd.ntmps89
    go_wp2_with fail
    refine HCL.out.mono ?_
    rintro e w2 ⟨rfl, hb2, hm2, hk2⟩
    have HX2 := LH (HX.out.trans hb2); have HM2 := LH hm2
    clear hb2 hm2 hk2
    obtain ⟨-, ⟨q0, q1, q2, q3, q4, q5⟩, hlt2⟩ := HM2.out.facts
    obtain ⟨⟨d0, d1, d2, d3, d4, d5⟩, -, -⟩ := HM2.out.facts
    simp only [Mc.close] at d0 d1 d2 d3 d4 d5
    rw [HS.out] at d0
    rw [HSG.out] at d4
    go_wp2
    go_ret
    exact StRet.bad (HX2.out.setCell (p := ⟨mb, 0, none⟩) H.out.hm _) HR.out rfl
   | false =>
    have HR := LH (show afterM m ⟨k, tx, n, a, b⟩ = some (m.close.to 1) from by unfold afterM; simp [h5, hsg, hs])
    clear h14 h20 h21 h18 h19 h4 h5
    have HS := LH hs
    rw [hs] at c0
    clear hs
    have HSG := LH hsg
    clear hsg
    go_enter Tryd.func89, Tryd.ntmps89
    go_wp2_with fail
    refine HCL.out.mono ?_
    rintro e w2 ⟨rfl, hb2, hm2, hk2⟩
    have HX2 := LH (HX.out.trans hb2); have HM2 := LH hm2
    clear hb2 hm2 hk2
    obtain ⟨-, ⟨q0, q1, q2, q3, q4, q5⟩, hlt2⟩ := HM2.out.facts
    obtain ⟨⟨d0, d1, d2, d3, d4, d5⟩, -, -⟩ := HM2.out.facts
    simp only [Mc.close] at d0 d1 d2 d3 d4 d5
    rw [HS.out] at d0
    rw [HSG.out] at d4
    go_wp2
    go_ret
    exact StRet.good (HX2.out.setCell (p := ⟨mb, 0, none⟩) H.out.hm _) HR.out rfl (HM2.out.setState 1)
  by_cases h17 : k = 17
  ·skip
   have e14 : (k == 14) = false := by rw [h17]; decide
   have e20 : (k == 20) = false := by rw [h17]; decide
   have e21 : (k == 21) = false := by rw [h17]; decide
   have e18 : (k == 18) = false := by rw [h17]; decide
   have e19 : (k == 19) = false := by rw [h17]; decide
   have e4 : (k == 4) = false := by rw [h17]; decide
   have e5 : (k == 5) = false := by rw [h17]; decide
   have e17 : (k == 17) = true := by simpa using h17
   have e0 : (k == 0) = false := by rw [h17]; decide
   have e9 : (k == 9) = false := by rw [h17]; decide
   have e15 : (k == 15) = false := by rw [h17]; decide
   have e16 : (k == 16) = false := by rw [h17]; decide
   have e6 : (k == 6) = false := by rw [h17]; decide
   have e1 : (k == 1) = false := by rw [h17]; decide
   have HCL := LH (close_kept (w.alloc (.cells #[.int .i64 k, .string (str tx), .int .i64 n, .int .i64 a, .int .i64 b] 74)) B mb _ m HM.out HB.out)
   cases hsg : m.at_.signed with
   | true =>
    have HR := LH (show afterM m ⟨k, tx, n, a, b⟩ = none from by unfold afterM; simp [h17, hsg, hs])
    clear h14 h20 h21 h18 h19 h4 h5 h17
    have HS := LH hs
    rw [hs] at c0
    clear hs
    have HSG := LH hsg
    clear hsg
    go_enter Tryd.func89, Tryd.ntmps89
    go_wp2_with fail
    refine HCL.out.mono ?_
    rintro e w2 ⟨rfl, hb2, hm2, hk2⟩
    have HX2 := LH (HX.out.trans hb2); have HM2 := LH hm2
    clear hb2 hm2 hk2
    obtain ⟨-, ⟨q0, q1, q2, q3, q4, q5⟩, hlt2⟩ := HM2.out.facts
    obtain ⟨⟨d0, d1, d2, d3, d4, d5⟩, -, -⟩ := HM2.out.facts
    simp only [Mc.close] at d0 d1 d2 d3 d4 d5
    rw [HS.out] at d0
    rw [HSG.out] at d4
    go_wp2
    go_ret
    exact StRet.bad (HX2.out.setCell (p := ⟨mb, 0, none⟩) H.out.hm _) HR.out rfl
   | false =>
    have HR := LH (show afterM m ⟨k, tx, n, a, b⟩ = some (m.close.to 1) from by unfold afterM; simp [h17, hsg, hs])
    clear h14 h20 h21 h18 h19 h4 h5 h17
    have HS := LH hs
    rw [hs] at c0
    clear hs
    have HSG := LH hsg
    clear hsg
    go_enter Tryd.func89, Tryd.ntmps89
    go_wp2_with fail
    refine HCL.out.mono ?_
    rintro e w2 ⟨rfl, hb2, hm2, hk2⟩
    have HX2 := LH (HX.out.trans hb2); have HM2 := LH hm2
    clear hb2 hm2 hk2
    obtain ⟨-, ⟨q0, q1, q2, q3, q4, q5⟩, hlt2⟩ := HM2.out.facts
    obtain ⟨⟨d0, d1, d2, d3, d4, d5⟩, -, -⟩ := HM2.out.facts
    simp only [Mc.close] at d0 d1 d2 d3 d4 d5
    rw [HS.out] at d0
    rw [HSG.out] at d4
    go_wp2
    go_ret
    exact StRet.good (HX2.out.setCell (p := ⟨mb, 0, none⟩) H.out.hm _) HR.out rfl (HM2.out.setState 1)
  by_cases h0 : k = 0
  ·skip
   have e14 : (k == 14) = false := by rw [h0]; decide
   have e20 : (k == 20) = false := by rw [h0]; decide
   have e21 : (k == 21) = false := by rw [h0]; decide
   have e18 : (k == 18) = false := by rw [h0]; decide
   have e19 : (k == 19) = false := by rw [h0]; decide
   have e4 : (k == 4) = false := by rw [h0]; decide
   have e5 : (k == 5) = false := by rw [h0]; decide
   have e17 : (k == 17) = false := by rw [h0]; decide
   have e0 : (k == 0) = true := by simpa using h0
   have e9 : (k == 9) = false := by rw [h0]; decide
   have e15 : (k == 15) = false := by rw [h0]; decide
   have e16 : (k == 16) = false := by rw [h0]; decide
   have e6 : (k == 6) = false := by rw [h0]; decide
   have e1 : (k == 1) = false := by rw [h0]; decide
   have HCL := LH (close_kept (w.alloc (.cells #[.int .i64 k, .string (str tx), .int .i64 n, .int .i64 a, .int .i64 b] 74)) B mb _ m HM.out HB.out)
   cases hbl : m.below with
   | nil =>
    have HR := LH (show afterM m ⟨k, tx, n, a, b⟩ = some (m.close.to 14) from by unfold afterM; simp [h0, hbl, hs])
    have hln : (((m.below.length : Nat) : Int) == 0) = true := by rw [hbl]; simp
    clear h14 h20 h21 h18 h19 h4 h5 h17 h0 hbl
    have HS := LH hs
    rw [hs] at c0
    clear hs
    go_enter Tryd.func89, Tryd.ntmps89
    go_wp2_with fail
    refine HCL.out.mono ?_
    rintro e w2 ⟨rfl, hb2, hm2, hk2⟩
    have HX2 := LH (HX.out.trans hb2); have HM2 := LH hm2
    clear hb2 hm2 hk2
    obtain ⟨-, ⟨q0, q1, q2, q3, q4, q5⟩, hlt2⟩ := HM2.out.facts
    obtain ⟨⟨d0, d1, d2, d3, d4, d5⟩, -, -⟩ := HM2.out.facts
    simp only [Mc.close] at d0 d1 d2 d3 d4 d5
    rw [HS.out] at d0
    go_wp2
    go_ret
    exact StRet.good (HX2.out.setCell (p := ⟨mb, 0, none⟩) H.out.hm _) HR.out rfl (HM2.out.setState 14)
   | cons x bl2 =>
    have HR := LH (show afterM m ⟨k, tx, n, a, b⟩ = none from by unfold afterM; simp [h0, hbl, hs])
    have hln : (((m.below.length : Nat) : Int) == 0) = false := by rw [hbl]; simp; omega
    clear h14 h20 h21 h18 h19 h4 h5 h17 h0 hbl
    have HS := LH hs
    rw [hs] at c0
    clear hs
    go_enter Tryd.func89, Tryd.ntmps89
    go_wp2_with fail
    refine HCL.out.mono ?_
    rintro e w2 ⟨rfl, hb2, hm2, hk2⟩
    have HX2 := LH (HX.out.trans hb2); have HM2 := LH hm2
    clear hb2 hm2 hk2
    obtain ⟨-, ⟨q0, q1, q2, q3, q4, q5⟩, hlt2⟩ := HM2.out.facts
    obtain ⟨⟨d0, d1, d2, d3, d4, d5⟩, -, -⟩ := HM2.out.facts
    simp only [Mc.close] at d0 d1 d2 d3 d4 d5
    rw [HS.out] at d0
    go_wp2
    go_ret
    exact StRet.bad (HX2.out.setCell (p := ⟨mb, 0, none⟩) H.out.hm _) HR.out rfl
  by_cases h9 : k = 9
  ·skip
   have e14 : (k == 14) = false := by rw [h9]; decide
   have e20 : (k == 20) = false := by rw [h9]; decide
   have e21 : (k == 21) = false := by rw [h9]; decide
   have e18 : (k == 18) = false := by rw [h9]; decide
   have e19 : (k == 19) = false := by rw [h9]; decide
   have e4 : (k == 4) = false := by rw [h9]; decide
   have e5 : (k == 5) = false := by rw [h9]; decide
   have e17 : (k == 17) = false := by rw [h9]; decide
   have e0 : (k == 0) = false := by rw [h9]; decide
   have e9 : (k == 9) = true := by simpa using h9
   have e15 : (k == 15) = false := by rw [h9]; decide
   have e16 : (k == 16) = false := by rw [h9]; decide
   have e6 : (k == 6) = false := by rw [h9]; decide
   have e1 : (k == 1) = false := by rw [h9]; decide
   have HR := LH (show afterM m ⟨k, tx, n, a, b⟩ = shutM m from by unfold afterM; simp [h9, hs])
   have HSH := LH (shut_any (w.alloc (.cells #[.int .i64 k, .string (str tx), .int .i64 n, .int .i64 a, .int .i64 b] 74)) B mb _ m HM.out HB.out)
   clear h14 h20 h21 h18 h19 h4 h5 h17 h0 h9
   have HS := LH hs
   rw [hs] at c0
   clear hs
   go_enter Tryd.func89, Tryd.ntmps89
   go_wp2_with fail
   refine HSH.out.mono ?_
   intro e w3 h3
   cases hbm : shutM m with
   | none =>
    unfold StRet at h3; rw [hbm] at h3
    obtain ⟨hb3, rfl⟩ := h3
    have HB3 := LH (HX.out.trans hb3)
    have HBM := LH hbm; clear hb3 hbm
    go_wp2
    go_ret
    exact StRet.bad HB3.out (HR.out.trans HBM.out) rfl
   | some m2 =>
    unfold StRet at h3; rw [hbm] at h3
    obtain ⟨hb3, rfl, v2, hm3⟩ := h3
    have HB3 := LH (HX.out.trans hb3); have HM3 := LH hm3
    have HBM := LH hbm; clear hb3 hm3 hbm
    go_wp2
    go_ret
    exact StRet.good HB3.out (HR.out.trans HBM.out) rfl HM3.out
  have e14 : (k == 14) = false := by simpa using h14
  have e20 : (k == 20) = false := by simpa using h20
  have e21 : (k == 21) = false := by simpa using h21
  have e18 : (k == 18) = false := by simpa using h18
  have e19 : (k == 19) = false := by simpa using h19
  have e4 : (k == 4) = false := by simpa using h4
  have e5 : (k == 5) = false := by simpa using h5
  have e17 : (k == 17) = false := by simpa using h17
  have e0 : (k == 0) = false := by simpa using h0
  have e9 : (k == 9) = false := by simpa using h9
  have HCL := LH (close_kept (w.alloc (.cells #[.int .i64 k, .string (str tx), .int .i64 n, .int .i64 a, .int .i64 b] 74)) B mb _ m HM.out HB.out)
  have HR := LH (show afterM m ⟨k, tx, n, a, b⟩ = clauseM (m.close.to 0) ⟨k, tx, n, a, b⟩ from by unfold afterM; simp [h14, h20, h21, h18, h19, h4, h5, h17, h0, h9, hs])
  clear h14 h20 h21 h18 h19 h4 h5 h17 h0 h9
  have HS := LH hs
  rw [hs] at c0
  clear hs
  go_enter Tryd.func89, Tryd.ntmps89
  go_wp2_with fail
  refine HCL.out.mono ?_
  rintro e w2 ⟨rfl, hb2, hm2, hk2⟩
  have HX2 := LH (HX.out.trans hb2); have HM2 := LH hm2
  have HT2 := LH (hk2 _ _ _ (by omega) HT.out)
  clear hb2 hm2 hk2
  obtain ⟨-, ⟨q0, q1, q2, q3, q4, q5⟩, hlt2⟩ := HM2.out.facts
  obtain ⟨⟨d0, d1, d2, d3, d4, d5⟩, -, -⟩ := HM2.out.facts
  simp only [Mc.close] at d0 d1 d2 d3 d4 d5
  rw [HS.out] at d0
  have hB0 : McB (m.close.to 0) := by
   have := HB.out.most
   exact ⟨Nat.zero_le _, Nat.max_le.2 ⟨this, hc⟩, Nat.zero_le _, HB.out.below⟩
  have HCA := LH (step_clause_any ⟨k, tx, n, a, b⟩ _ B mb _ _ (HM2.out.setState 0) hB0 rfl)
  have hT0 := HT2.out.far (p := ⟨mb, 0, none⟩) (by show w.heap.size ≠ mb; omega) (.int .i64 0)
  have k0 := HT2.out.cell 0; have k1 := HT2.out.cell 1; have k2 := HT2.out.cell 2; have k3 := HT2.out.cell 3; have k4 := HT2.out.cell 4
  simp only [List.getElem?_toArray, List.getElem?_cons_zero, List.getElem?_cons_succ] at k0 k1 k2 k3 k4
  have hg1 : ¬ w.heap.size = mb := by omega
  have hg2 : ¬ mb = w.heap.size := by omega
  clear hT0 hB0
  go_wp2_with fail
  refine HCA.out.mono ?_
  intro e w3 h3
  cases hbm : clauseM (m.close.to 0) ⟨k, tx, n, a, b⟩ with
  | none =>
   unfold StRet at h3; rw [hbm] at h3
   obtain ⟨hb3, rfl⟩ := h3
   have HB3 := LH ((HX2.out.setCell (p := ⟨mb, 0, none⟩) H.out.hm _).trans hb3)
   have HBM := LH hbm; clear hb3 hbm
   go_wp2
   go_ret
   exact StRet.bad HB3.out (HR.out.trans HBM.out) rfl
  | some m2 =>
   unfold StRet at h3; rw [hbm] at h3
   obtain ⟨hb3, rfl, v2, hm3⟩ := h3
   have HB3 := LH ((HX2.out.setCell (p := ⟨mb, 0, none⟩) H.out.hm _).trans hb3); have HM3 := LH hm3
   have HBM := LH hbm; clear hb3 hm3 hbm
   go_wp2
   go_ret
   exact StRet.good HB3.out (HR.out.trans HBM.out) rfl HM3.out
theorem after_all (t : Lt) (w : World) (B mb : Nat) (v : Value) (m : Mc) (h : McAt w B mb v m) (hb : McB m) (hc : m.at_.nots + m.nest ≤ 940000000000) (hs : m.state = 4 ∨ m.state = 5 ∨ m.state = 6 ∨ m.state = 7 ∨ m.state = 8 ∨ m.state = 9) :
  Calls Tryd.prog 89 #[.pointer (some ⟨mb, 0, none⟩), ltVal t] w (StRet B mb w (afterM m t)) := by
 obtain ⟨k, tx, n, a, b⟩ := t
 by_cases x14 : (m.state = 4 ∨ m.state = 6) ∧ k = 14
 ·exact after_c14 k tx n a b w B mb v m h hb hc x14.1 x14.2
 by_cases h20 : k = 20
 ·exact after_c20 k tx n a b w B mb v m h hb hc hs h20
 by_cases x21 : m.state = 8 ∧ k = 21
 ·exact after_c21 k tx n a b w B mb v m h hb hc x21.1 x21.2
 exact after_rest k tx n a b w B mb v m h hb hc hs x14 h20 x21
end Go.Proofs.YthcldpminmhgkaaDoor
end
