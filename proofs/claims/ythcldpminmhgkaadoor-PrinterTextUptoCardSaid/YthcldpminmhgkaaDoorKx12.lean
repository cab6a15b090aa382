/- Merged for a claim by shake.py: Ml Mn Mo Mt -/
import Derived.Test.YthcldpminmhgkaaDoorKxA
import Derived.Carry
import Derived.Deep.RegionLaw
import Derived.OpenShut
import Derived.ShutString
import Derived.Test.YthcldpminmhgkaaDoorKx1
import Derived.Test.YthcldpminmhgkaaDoorKx11
import Derived.Test.YthcldpminmhgkaaDoorKx8
import Derived.Test.YthcldpminmhgkaaDoorRows
set_option maxRecDepth 100000
set_option maxHeartbeats 8000000
set_option linter.unusedSimpArgs false
set_option linter.unusedVariables false
section
namespace Go.Proofs.YthcldpminmhgkaaDoor
open Go.RowKit
theorem after_any (t : Lt) (w : World) (B mb : Nat) (v : Value) (m : Mc) (h : McAt w B mb v m) (hb : McB m) (hc : m.at_.nots + m.nest ≤ 940000000000) (h1 : 4 ≤ m.state) (h2 : m.state ≤ 9) :
  Calls Tryd.prog 89 #[.pointer (some ⟨mb, 0, none⟩), ltVal t] w (StRet B mb w (afterM m t)) := by
 have h3 : m.state = 4 ∨ m.state = 5 ∨ m.state = 6 ∨ m.state = 7 ∨ m.state = 8 ∨ m.state = 9 := by omega
 exact after_all t w B mb v m h hb hc h3
theorem step3_any (t : Lt) (w : World) (B mb : Nat) (v : Value) (m : Mc) (h : McAt w B mb v m) (hb : McB m) (hc : m.at_.nots + m.nest ≤ 940000000000) (hs : m.state = 3) :
  Calls Tryd.prog 63 #[.pointer (some ⟨mb, 0, none⟩), ltVal t] w (StRet B mb w (stepM m t)) := by
 obtain ⟨k, tx, n, a, b⟩ := t
 obtain ⟨st, ne, ⟨mo, no, sg⟩, bl⟩ := m
 simp only [] at hs hc
 subst hs
 obtain ⟨-, ⟨f0, f1, f2, f3, f4, f5⟩, hlt⟩ := h.facts
 obtain ⟨⟨c0, c1, c2, c3, c4, c5⟩, -, -⟩ := h.facts
 have c0 : w.cell? ⟨mb, 0, none⟩ = some (.int .i64 3) := c0
 simp only [] at c1 c2 c3 c4 c5
 have H := LH h; have HB := LH hb
 have hBw := h.hB
 clear h hb
 unfold ltVal
 simp only []
 have hM := H.out.alloc (.cells #[.int .i64 k, .string (str tx), .int .i64 n, .int .i64 a, .int .i64 b] 74)
 have hX : Below B w (w.alloc (.cells #[.int .i64 k, .string (str tx), .int .i64 n, .int .i64 a, .int .i64 b] 74)) := (Below.refl B w).alloc hBw _
 have HM := LH hM; have HX := LH hX
 clear hM hX
 have hM9 : McAt ((w.setCell ⟨mb, 0, none⟩ (.int .i64 9)).alloc (.cells #[.int .i64 k, .string (str tx), .int .i64 n, .int .i64 a, .int .i64 b] 74)) B mb v (Mc.to ⟨3, ne, ⟨mo, no, sg⟩, bl⟩ 9) := (H.out.setState 9).alloc _
 have hX9 : Below B w ((w.setCell ⟨mb, 0, none⟩ (.int .i64 9)).alloc (.cells #[.int .i64 k, .string (str tx), .int .i64 n, .int .i64 a, .int .i64 b] 74)) := ((Below.refl B w).setCell (p := ⟨mb, 0, none⟩) H.out.hm _).alloc (by rw [set_size]; exact hBw) _
 have hST := star_any ⟨k, tx, n, a, b⟩ ((w.setCell ⟨mb, 0, none⟩ (.int .i64 9)).alloc (.cells #[.int .i64 k, .string (str tx), .int .i64 n, .int .i64 a, .int .i64 b] 74))
 have HM9 := LH hM9; have HX9 := LH hX9; have HST := LH hST
 clear hM9 hX9 hST
 cases hst : starT ⟨k, tx, n, a, b⟩ with
 | true =>
  have HR := LH (show stepM ⟨3, ne, ⟨mo, no, sg⟩, bl⟩ ⟨k, tx, n, a, b⟩ = some (Mc.to ⟨3, ne, ⟨mo, no, sg⟩, bl⟩ 9) from by unfold stepM; simp [hst])
  have HV := LH hst
  clear hst
  go_enter Tryd.func63, Tryd.ntmps63
  go_wp2
  refine wp_scope_fwd 0 rfl ?_
  intro J HJ
  clear HJ
  go_wp2_with fail
  refine HST.out.mono ?_
  rintro e w2 ⟨rfl, hb2⟩
  rw [HV.out]
  have HM2 := LH (HM9.out.below hb2)
  have HX2 := LH (HX9.out.trans (hb2.mono HM9.out.hB))
  clear hb2
  go_wp2
  refine jump_rt ?_
  go_ret
  exact StRet.good HX2.out HR.out rfl HM2.out
 | false =>
  have HR := LH (show stepM ⟨3, ne, ⟨mo, no, sg⟩, bl⟩ ⟨k, tx, n, a, b⟩ = none from by unfold stepM; simp [hst])
  have HV := LH hst
  clear hst
  go_enter Tryd.func63, Tryd.ntmps63
  go_wp2
  refine wp_scope_fwd 0 rfl ?_
  intro J HJ
  clear HJ
  go_wp2_with fail
  refine HST.out.mono ?_
  rintro e w2 ⟨rfl, hb2⟩
  rw [HV.out]
  have HM2 := LH (HM9.out.below hb2)
  have HX2 := LH (HX9.out.trans (hb2.mono HM9.out.hB))
  clear hb2
  go_wp2
  refine jump_rt ?_
  go_ret
  exact StRet.bad HX2.out HR.out rfl
theorem step4_any (t : Lt) (w : World) (B mb : Nat) (v : Value) (m : Mc) (h : McAt w B mb v m) (hb : McB m) (hc : m.at_.nots + m.nest ≤ 940000000000) (hs : m.state = 4) :
  Calls Tryd.prog 63 #[.pointer (some ⟨mb, 0, none⟩), ltVal t] w (StRet B mb w (stepM m t)) := by
 obtain ⟨k, tx, n, a, b⟩ := t
 obtain ⟨st, ne, ⟨mo, no, sg⟩, bl⟩ := m
 simp only [] at hs hc
 subst hs
 obtain ⟨-, ⟨f0, f1, f2, f3, f4, f5⟩, hlt⟩ := h.facts
 obtain ⟨⟨c0, c1, c2, c3, c4, c5⟩, -, -⟩ := h.facts
 have c0 : w.cell? ⟨mb, 0, none⟩ = some (.int .i64 4) := c0
 simp only [] at c1 c2 c3 c4 c5
 have H := LH h; have HB := LH hb
 have hBw := h.hB
 clear h hb
 unfold ltVal
 simp only []
 have hM := H.out.alloc (.cells #[.int .i64 k, .string (str tx), .int .i64 n, .int .i64 a, .int .i64 b] 74)
 have hX : Below B w (w.alloc (.cells #[.int .i64 k, .string (str tx), .int .i64 n, .int .i64 a, .int .i64 b] 74)) := (Below.refl B w).alloc hBw _
 have HM := LH hM; have HX := LH hX
 clear hM hX
 have HR := LH (show stepM ⟨4, ne, ⟨mo, no, sg⟩, bl⟩ ⟨k, tx, n, a, b⟩ = afterM ⟨4, ne, ⟨mo, no, sg⟩, bl⟩ ⟨k, tx, n, a, b⟩ from rfl)
 have HAF := LH (show _ from after_any ⟨k, tx, n, a, b⟩ (w.alloc (.cells #[.int .i64 k, .string (str tx), .int .i64 n, .int .i64 a, .int .i64 b] 74)) B mb v ⟨4, ne, ⟨mo, no, sg⟩, bl⟩ HM.out HB.out hc (by show 4 ≤ 4; omega) (by show 4 ≤ 9; omega))
 go_enter Tryd.func63, Tryd.ntmps63
 go_wp2
 refine wp_scope_fwd 0 rfl ?_
 intro J HJ
 clear HJ
 go_wp2_with fail
 refine HAF.out.mono ?_
 intro e w3 h3
 cases hbm : afterM ⟨4, ne, ⟨mo, no, sg⟩, bl⟩ ⟨k, tx, n, a, b⟩ with
 | none =>
  unfold StRet at h3; rw [hbm] at h3
  obtain ⟨hb3, rfl⟩ := h3
  have HB3 := LH (HX.out.trans hb3)
  have HBM := LH hbm; clear hb3 hbm
  go_wp2
  refine jump_rt ?_
  go_ret
  exact StRet.bad HB3.out (HR.out.trans HBM.out) rfl
 | some m2 =>
  unfold StRet at h3; rw [hbm] at h3
  obtain ⟨hb3, rfl, v2, hm3⟩ := h3
  have HB3 := LH (HX.out.trans hb3); have HM3 := LH hm3
  have HBM := LH hbm; clear hb3 hm3 hbm
  go_wp2
  refine jump_rt ?_
  go_ret
  exact StRet.good HB3.out (HR.out.trans HBM.out) rfl HM3.out
theorem step5_any (t : Lt) (w : World) (B mb : Nat) (v : Value) (m : Mc) (h : McAt w B mb v m) (hb : McB m) (hc : m.at_.nots + m.nest ≤ 940000000000) (hs : m.state = 5) :
  Calls Tryd.prog 63 #[.pointer (some ⟨mb, 0, none⟩), ltVal t] w (StRet B mb w (stepM m t)) := by
 obtain ⟨k, tx, n, a, b⟩ := t
 obtain ⟨st, ne, ⟨mo, no, sg⟩, bl⟩ := m
 simp only [] at hs hc
 subst hs
 obtain ⟨-, ⟨f0, f1, f2, f3, f4, f5⟩, hlt⟩ := h.facts
 obtain ⟨⟨c0, c1, c2, c3, c4, c5⟩, -, -⟩ := h.facts
 have c0 : w.cell? ⟨mb, 0, none⟩ = some (.int .i64 5) := c0
 simp only [] at c1 c2 c3 c4 c5
 have H := LH h; have HB := LH hb
 have hBw := h.hB
 clear h hb
 unfold ltVal
 simp only []
 have hM := H.out.alloc (.cells #[.int .i64 k, .string (str tx), .int .i64 n, .int .i64 a, .int .i64 b] 74)
 have hX : Below B w (w.alloc (.cells #[.int .i64 k, .string (str tx), .int .i64 n, .int .i64 a, .int .i64 b] 74)) := (Below.refl B w).alloc hBw _
 have HM := LH hM; have HX := LH hX
 clear hM hX
 have HR := LH (show stepM ⟨5, ne, ⟨mo, no, sg⟩, bl⟩ ⟨k, tx, n, a, b⟩ = afterM ⟨5, ne, ⟨mo, no, sg⟩, bl⟩ ⟨k, tx, n, a, b⟩ from rfl)
 have HAF := LH (show _ from after_any ⟨k, tx, n, a, b⟩ (w.alloc (.cells #[.int .i64 k, .string (str tx), .int .i64 n, .int .i64 a, .int .i64 b] 74)) B mb v ⟨5, ne, ⟨mo, no, sg⟩, bl⟩ HM.out HB.out hc (by show 4 ≤ 5; omega) (by show 5 ≤ 9; omega))
 go_enter Tryd.func63, Tryd.ntmps63
 go_wp2
 refine wp_scope_fwd 0 rfl ?_
 intro J HJ
 clear HJ
 go_wp2_with fail
 refine HAF.out.mono ?_
 intro e w3 h3
 cases hbm : afterM ⟨5, ne, ⟨mo, no, sg⟩, bl⟩ ⟨k, tx, n, a, b⟩ with
 | none =>
  unfold StRet at h3; rw [hbm] at h3
  obtain ⟨hb3, rfl⟩ := h3
  have HB3 := LH (HX.out.trans hb3)
  have HBM := LH hbm; clear hb3 hbm
  go_wp2
  refine jump_rt ?_
  go_ret
  exact StRet.bad HB3.out (HR.out.trans HBM.out) rfl
 | some m2 =>
  unfold StRet at h3; rw [hbm] at h3
  obtain ⟨hb3, rfl, v2, hm3⟩ := h3
  have HB3 := LH (HX.out.trans hb3); have HM3 := LH hm3
  have HBM := LH hbm; clear hb3 hm3 hbm
  go_wp2
  refine jump_rt ?_
  go_ret
  exact StRet.good HB3.out (HR.out.trans HBM.out) rfl HM3.out
theorem step6_any (t : Lt) (w : World) (B mb : Nat) (v : Value) (m : Mc) (h : McAt w B mb v m) (hb : McB m) (hc : m.at_.nots + m.nest ≤ 940000000000) (hs : m.state = 6) :
  Calls Tryd.prog 63 #[.pointer (some ⟨mb, 0, none⟩), ltVal t] w (StRet B mb w (stepM m t)) := by
 obtain ⟨k, tx, n, a, b⟩ := t
 obtain ⟨st, ne, ⟨mo, no, sg⟩, bl⟩ := m
 simp only [] at hs hc
 subst hs
 obtain ⟨-, ⟨f0, f1, f2, f3, f4, f5⟩, hlt⟩ := h.facts
 obtain ⟨⟨c0, c1, c2, c3, c4, c5⟩, -, -⟩ := h.facts
 have c0 : w.cell? ⟨mb, 0, none⟩ = some (.int .i64 6) := c0
 simp only [] at c1 c2 c3 c4 c5
 have H := LH h; have HB := LH hb
 have hBw := h.hB
 clear h hb
 unfold ltVal
 simp only []
 have hM := H.out.alloc (.cells #[.int .i64 k, .string (str tx), .int .i64 n, .int .i64 a, .int .i64 b] 74)
 have hX : Below B w (w.alloc (.cells #[.int .i64 k, .string (str tx), .int .i64 n, .int .i64 a, .int .i64 b] 74)) := (Below.refl B w).alloc hBw _
 have HM := LH hM; have HX := LH hX
 clear hM hX
 have HR := LH (show stepM ⟨6, ne, ⟨mo, no, sg⟩, bl⟩ ⟨k, tx, n, a, b⟩ = afterM ⟨6, ne, ⟨mo, no, sg⟩, bl⟩ ⟨k, tx, n, a, b⟩ from rfl)
 have HAF := LH (show _ from after_any ⟨k, tx, n, a, b⟩ (w.alloc (.cells #[.int .i64 k, .string (str tx), .int .i64 n, .int .i64 a, .int .i64 b] 74)) B mb v ⟨6, ne, ⟨mo, no, sg⟩, bl⟩ HM.out HB.out hc (by show 4 ≤ 6; omega) (by show 6 ≤ 9; omega))
 go_enter Tryd.func63, Tryd.ntmps63
 go_wp2
 refine wp_scope_fwd 0 rfl ?_
 intro J HJ
 clear HJ
 go_wp2_with fail
 refine HAF.out.mono ?_
 intro e w3 h3
 cases hbm : afterM ⟨6, ne, ⟨mo, no, sg⟩, bl⟩ ⟨k, tx, n, a, b⟩ with
 | none =>
  unfold StRet at h3; rw [hbm] at h3
  obtain ⟨hb3, rfl⟩ := h3
  have HB3 := LH (HX.out.trans hb3)
  have HBM := LH hbm; clear hb3 hbm
  go_wp2
  refine jump_rt ?_
  go_ret
  exact StRet.bad HB3.out (HR.out.trans HBM.out) rfl
 | some m2 =>
  unfold StRet at h3; rw [hbm] at h3
  obtain ⟨hb3, rfl, v2, hm3⟩ := h3
  have HB3 := LH (HX.out.trans hb3); have HM3 := LH hm3
  have HBM := LH hbm; clear hb3 hm3 hbm
  go_wp2
  refine jump_rt ?_
  go_ret
  exact StRet.good HB3.out (HR.out.trans HBM.out) rfl HM3.out
theorem step7_any (t : Lt) (w : World) (B mb : Nat) (v : Value) (m : Mc) (h : McAt w B mb v m) (hb : McB m) (hc : m.at_.nots + m.nest ≤ 940000000000) (hs : m.state = 7) :
  Calls Tryd.prog 63 #[.pointer (some ⟨mb, 0, none⟩), ltVal t] w (StRet B mb w (stepM m t)) := by
 obtain ⟨k, tx, n, a, b⟩ := t
 obtain ⟨st, ne, ⟨mo, no, sg⟩, bl⟩ := m
 simp only [] at hs hc
 subst hs
 obtain ⟨-, ⟨f0, f1, f2, f3, f4, f5⟩, hlt⟩ := h.facts
 obtain ⟨⟨c0, c1, c2, c3, c4, c5⟩, -, -⟩ := h.facts
 have c0 : w.cell? ⟨mb, 0, none⟩ = some (.int .i64 7) := c0
 simp only [] at c1 c2 c3 c4 c5
 have H := LH h; have HB := LH hb
 have hBw := h.hB
 clear h hb
 unfold ltVal
 simp only []
 have hM := H.out.alloc (.cells #[.int .i64 k, .string (str tx), .int .i64 n, .int .i64 a, .int .i64 b] 74)
 have hX : Below B w (w.alloc (.cells #[.int .i64 k, .string (str tx), .int .i64 n, .int .i64 a, .int .i64 b] 74)) := (Below.refl B w).alloc hBw _
 have HM := LH hM; have HX := LH hX
 clear hM hX
 have HR := LH (show stepM ⟨7, ne, ⟨mo, no, sg⟩, bl⟩ ⟨k, tx, n, a, b⟩ = afterM ⟨7, ne, ⟨mo, no, sg⟩, bl⟩ ⟨k, tx, n, a, b⟩ from rfl)
 have HAF := LH (show _ from after_any ⟨k, tx, n, a, b⟩ (w.alloc (.cells #[.int .i64 k, .string (str tx), .int .i64 n, .int .i64 a, .int .i64 b] 74)) B mb v ⟨7, ne, ⟨mo, no, sg⟩, bl⟩ HM.out HB.out hc (by show 4 ≤ 7; omega) (by show 7 ≤ 9; omega))
 go_enter Tryd.func63, Tryd.ntmps63
 go_wp2
 refine wp_scope_fwd 0 rfl ?_
 intro J HJ
 clear HJ
 go_wp2_with fail
 refine HAF.out.mono ?_
 intro e w3 h3
 cases hbm : afterM ⟨7, ne, ⟨mo, no, sg⟩, bl⟩ ⟨k, tx, n, a, b⟩ with
 | none =>
  unfold StRet at h3; rw [hbm] at h3
  obtain ⟨hb3, rfl⟩ := h3
  have HB3 := LH (HX.out.trans hb3)
  have HBM := LH hbm; clear hb3 hbm
  go_wp2
  refine jump_rt ?_
  go_ret
  exact StRet.bad HB3.out (HR.out.trans HBM.out) rfl
 | some m2 =>
  unfold StRet at h3; rw [hbm] at h3
  obtain ⟨hb3, rfl, v2, hm3⟩ := h3
  have HB3 := LH (HX.out.trans hb3); have HM3 := LH hm3
  have HBM := LH hbm; clear hb3 hm3 hbm
  go_wp2
  refine jump_rt ?_
  go_ret
  exact StRet.good HB3.out (HR.out.trans HBM.out) rfl HM3.out
theorem step8_any (t : Lt) (w : World) (B mb : Nat) (v : Value) (m : Mc) (h : McAt w B mb v m) (hb : McB m) (hc : m.at_.nots + m.nest ≤ 940000000000) (hs : m.state = 8) :
  Calls Tryd.prog 63 #[.pointer (some ⟨mb, 0, none⟩), ltVal t] w (StRet B mb w (stepM m t)) := by
 obtain ⟨k, tx, n, a, b⟩ := t
 obtain ⟨st, ne, ⟨mo, no, sg⟩, bl⟩ := m
 simp only [] at hs hc
 subst hs
 obtain ⟨-, ⟨f0, f1, f2, f3, f4, f5⟩, hlt⟩ := h.facts
 obtain ⟨⟨c0, c1, c2, c3, c4, c5⟩, -, -⟩ := h.facts
 have c0 : w.cell? ⟨mb, 0, none⟩ = some (.int .i64 8) := c0
 simp only [] at c1 c2 c3 c4 c5
 have H := LH h; have HB := LH hb
 have hBw := h.hB
 clear h hb
 unfold ltVal
 simp only []
 have hM := H.out.alloc (.cells #[.int .i64 k, .string (str tx), .int .i64 n, .int .i64 a, .int .i64 b] 74)
 have hX : Below B w (w.alloc (.cells #[.int .i64 k, .string (str tx), .int .i64 n, .int .i64 a, .int .i64 b] 74)) := (Below.refl B w).alloc hBw _
 have HM := LH hM; have HX := LH hX
 clear hM hX
 have HR := LH (show stepM ⟨8, ne, ⟨mo, no, sg⟩, bl⟩ ⟨k, tx, n, a, b⟩ = afterM ⟨8, ne, ⟨mo, no, sg⟩, bl⟩ ⟨k, tx, n, a, b⟩ from rfl)
 have HAF := LH (show _ from after_any ⟨k, tx, n, a, b⟩ (w.alloc (.cells #[.int .i64 k, .string (str tx), .int .i64 n, .int .i64 a, .int .i64 b] 74)) B mb v ⟨8, ne, ⟨mo, no, sg⟩, bl⟩ HM.out HB.out hc (by show 4 ≤ 8; omega) (by show 8 ≤ 9; omega))
 go_enter Tryd.func63, Tryd.ntmps63
 go_wp2
 refine wp_scope_fwd 0 rfl ?_
 intro J HJ
 clear HJ
 go_wp2_with fail
 refine HAF.out.mono ?_
 intro e w3 h3
 cases hbm : afterM ⟨8, ne, ⟨mo, no, sg⟩, bl⟩ ⟨k, tx, n, a, b⟩ with
 | none =>
  unfold StRet at h3; rw [hbm] at h3
  obtain ⟨hb3, rfl⟩ := h3
  have HB3 := LH (HX.out.trans hb3)
  have HBM := LH hbm; clear hb3 hbm
  go_wp2
  refine jump_rt ?_
  go_ret
  exact StRet.bad HB3.out (HR.out.trans HBM.out) rfl
 | some m2 =>
  unfold StRet at h3; rw [hbm] at h3
  obtain ⟨hb3, rfl, v2, hm3⟩ := h3
  have HB3 := LH (HX.out.trans hb3); have HM3 := LH hm3
  have HBM := LH hbm; clear hb3 hm3 hbm
  go_wp2
  refine jump_rt ?_
  go_ret
  exact StRet.good HB3.out (HR.out.trans HBM.out) rfl HM3.out
theorem step9_any (t : Lt) (w : World) (B mb : Nat) (v : Value) (m : Mc) (h : McAt w B mb v m) (hb : McB m) (hc : m.at_.nots + m.nest ≤ 940000000000) (hs : m.state = 9) :
  Calls Tryd.prog 63 #[.pointer (some ⟨mb, 0, none⟩), ltVal t] w (StRet B mb w (stepM m t)) := by
 obtain ⟨k, tx, n, a, b⟩ := t
 obtain ⟨st, ne, ⟨mo, no, sg⟩, bl⟩ := m
 simp only [] at hs hc
 subst hs
 obtain ⟨-, ⟨f0, f1, f2, f3, f4, f5⟩, hlt⟩ := h.facts
 obtain ⟨⟨c0, c1, c2, c3, c4, c5⟩, -, -⟩ := h.facts
 have c0 : w.cell? ⟨mb, 0, none⟩ = some (.int .i64 9) := c0
 simp only [] at c1 c2 c3 c4 c5
 have H := LH h; have HB := LH hb
 have hBw := h.hB
 clear h hb
 unfold ltVal
 simp only []
 have hM := H.out.alloc (.cells #[.int .i64 k, .string (str tx), .int .i64 n, .int .i64 a, .int .i64 b] 74)
 have hX : Below B w (w.alloc (.cells #[.int .i64 k, .string (str tx), .int .i64 n, .int .i64 a, .int .i64 b] 74)) := (Below.refl B w).alloc hBw _
 have HM := LH hM; have HX := LH hX
 clear hM hX
 have HR := LH (show stepM ⟨9, ne, ⟨mo, no, sg⟩, bl⟩ ⟨k, tx, n, a, b⟩ = afterM ⟨9, ne, ⟨mo, no, sg⟩, bl⟩ ⟨k, tx, n, a, b⟩ from rfl)
 have HAF := LH (show _ from after_any ⟨k, tx, n, a, b⟩ (w.alloc (.cells #[.int .i64 k, .string (str tx), .int .i64 n, .int .i64 a, .int .i64 b] 74)) B mb v ⟨9, ne, ⟨mo, no, sg⟩, bl⟩ HM.out HB.out hc (by show 4 ≤ 9; omega) (by show 9 ≤ 9; omega))
 go_enter Tryd.func63, Tryd.ntmps63
 go_wp2
 refine wp_scope_fwd 0 rfl ?_
 intro J HJ
 clear HJ
 go_wp2_with fail
 refine HAF.out.mono ?_
 intro e w3 h3
 cases hbm : afterM ⟨9, ne, ⟨mo, no, sg⟩, bl⟩ ⟨k, tx, n, a, b⟩ with
 | none =>
  unfold StRet at h3; rw [hbm] at h3
  obtain ⟨hb3, rfl⟩ := h3
  have HB3 := LH (HX.out.trans hb3)
  have HBM := LH hbm; clear hb3 hbm
  go_wp2
  refine jump_rt ?_
  go_ret
  exact StRet.bad HB3.out (HR.out.trans HBM.out) rfl
 | some m2 =>
  unfold StRet at h3; rw [hbm] at h3
  obtain ⟨hb3, rfl, v2, hm3⟩ := h3
  have HB3 := LH (HX.out.trans hb3); have HM3 := LH hm3
  have HBM := LH hbm; clear hb3 hm3 hbm
  go_wp2
  refine jump_rt ?_
  go_ret
  exact StRet.good HB3.out (HR.out.trans HBM.out) rfl HM3.out
theorem step10_any (t : Lt) (w : World) (B mb : Nat) (v : Value) (m : Mc) (h : McAt w B mb v m) (hb : McB m) (hc : m.at_.nots + m.nest ≤ 940000000000) (hs : m.state = 10) :
  Calls Tryd.prog 63 #[.pointer (some ⟨mb, 0, none⟩), ltVal t] w (StRet B mb w (stepM m t)) := by
 obtain ⟨k, tx, n, a, b⟩ := t
 obtain ⟨st, ne, ⟨mo, no, sg⟩, bl⟩ := m
 simp only [] at hs hc
 subst hs
 obtain ⟨-, ⟨f0, f1, f2, f3, f4, f5⟩, hlt⟩ := h.facts
 obtain ⟨⟨c0, c1, c2, c3, c4, c5⟩, -, -⟩ := h.facts
 have c0 : w.cell? ⟨mb, 0, none⟩ = some (.int .i64 10) := c0
 simp only [] at c1 c2 c3 c4 c5
 have H := LH h; have HB := LH hb
 have hBw := h.hB
 clear h hb
 unfold ltVal
 simp only []
 have hM := H.out.alloc (.cells #[.int .i64 k, .string (str tx), .int .i64 n, .int .i64 a, .int .i64 b] 74)
 have hX : Below B w (w.alloc (.cells #[.int .i64 k, .string (str tx), .int .i64 n, .int .i64 a, .int .i64 b] 74)) := (Below.refl B w).alloc hBw _
 have HM := LH hM; have HX := LH hX
 clear hM hX
 have HR := LH (show stepM ⟨10, ne, ⟨mo, no, sg⟩, bl⟩ ⟨k, tx, n, a, b⟩ = sideM ⟨10, ne, ⟨mo, no, sg⟩, bl⟩ ⟨k, tx, n, a, b⟩ 11 from rfl)
 have HSD := LH (show _ from side_any ⟨k, tx, n, a, b⟩ 11 (w.alloc (.cells #[.int .i64 k, .string (str tx), .int .i64 n, .int .i64 a, .int .i64 b] 74)) B mb v ⟨10, ne, ⟨mo, no, sg⟩, bl⟩ HM.out)
 go_enter Tryd.func63, Tryd.ntmps63
 go_wp2
 refine wp_scope_fwd 0 rfl ?_
 intro J HJ
 clear HJ
 go_wp2_with fail
 refine HSD.out.mono ?_
 intro e w3 h3
 cases hbm : sideM ⟨10, ne, ⟨mo, no, sg⟩, bl⟩ ⟨k, tx, n, a, b⟩ 11 with
 | none =>
  unfold StRet at h3; rw [hbm] at h3
  obtain ⟨hb3, rfl⟩ := h3
  have HB3 := LH (HX.out.trans hb3)
  have HBM := LH hbm; clear hb3 hbm
  go_wp2
  refine jump_rt ?_
  go_ret
  exact StRet.bad HB3.out (HR.out.trans HBM.out) rfl
 | some m2 =>
  unfold StRet at h3; rw [hbm] at h3
  obtain ⟨hb3, rfl, v2, hm3⟩ := h3
  have HB3 := LH (HX.out.trans hb3); have HM3 := LH hm3
  have HBM := LH hbm; clear hb3 hm3 hbm
  go_wp2
  refine jump_rt ?_
  go_ret
  exact StRet.good HB3.out (HR.out.trans HBM.out) rfl HM3.out
theorem step11_any (t : Lt) (w : World) (B mb : Nat) (v : Value) (m : Mc) (h : McAt w B mb v m) (hb : McB m) (hc : m.at_.nots + m.nest ≤ 940000000000) (hs : m.state = 11) :
  Calls Tryd.prog 63 #[.pointer (some ⟨mb, 0, none⟩), ltVal t] w (StRet B mb w (stepM m t)) := by
 obtain ⟨k, tx, n, a, b⟩ := t
 obtain ⟨st, ne, ⟨mo, no, sg⟩, bl⟩ := m
 simp only [] at hs hc
 subst hs
 obtain ⟨-, ⟨f0, f1, f2, f3, f4, f5⟩, hlt⟩ := h.facts
 obtain ⟨⟨c0, c1, c2, c3, c4, c5⟩, -, -⟩ := h.facts
 have c0 : w.cell? ⟨mb, 0, none⟩ = some (.int .i64 11) := c0
 simp only [] at c1 c2 c3 c4 c5
 have H := LH h; have HB := LH hb
 have hBw := h.hB
 clear h hb
 unfold ltVal
 simp only []
 have hM := H.out.alloc (.cells #[.int .i64 k, .string (str tx), .int .i64 n, .int .i64 a, .int .i64 b] 74)
 have hX : Below B w (w.alloc (.cells #[.int .i64 k, .string (str tx), .int .i64 n, .int .i64 a, .int .i64 b] 74)) := (Below.refl B w).alloc hBw _
 have HM := LH hM; have HX := LH hX
 clear hM hX
 by_cases h7 : k = 7
 ·have e7 : (k == 7) = true := by simpa using h7
  have HR := LH (show stepM ⟨11, ne, ⟨mo, no, sg⟩, bl⟩ ⟨k, tx, n, a, b⟩ = some (Mc.to ⟨11, ne, ⟨mo, no, sg⟩, bl⟩ 12) from by unfold stepM; simp [h7])
  clear h7
  go_enter Tryd.func63, Tryd.ntmps63
  go_wp2
  refine wp_scope_fwd 0 rfl ?_
  intro J HJ
  clear HJ
  go_wp2
  refine jump_rt ?_
  go_ret
  exact StRet.good (((Below.refl B w).setCell (p := ⟨mb, 0, none⟩) H.out.hm _).alloc (by rw [set_size]; exact hBw) _) HR.out rfl ((H.out.setState 12).alloc _)
 have e7 : (k == 7) = false := by simpa using h7
 have HR := LH (show stepM ⟨11, ne, ⟨mo, no, sg⟩, bl⟩ ⟨k, tx, n, a, b⟩ = none from by unfold stepM; simp [h7])
 clear h7
 go_enter Tryd.func63, Tryd.ntmps63
 go_wp2
 refine wp_scope_fwd 0 rfl ?_
 intro J HJ
 clear HJ
 go_wp2
 refine jump_rt ?_
 go_ret
 exact StRet.bad (((Below.refl B w).setCell (p := ⟨mb, 0, none⟩) H.out.hm _).alloc (by rw [set_size]; exact hBw) _) HR.out rfl
theorem step12_any (t : Lt) (w : World) (B mb : Nat) (v : Value) (m : Mc) (h : McAt w B mb v m) (hb : McB m) (hc : m.at_.nots + m.nest ≤ 940000000000) (hs : m.state = 12) :
  Calls Tryd.prog 63 #[.pointer (some ⟨mb, 0, none⟩), ltVal t] w (StRet B mb w (stepM m t)) := by
 obtain ⟨k, tx, n, a, b⟩ := t
 obtain ⟨st, ne, ⟨mo, no, sg⟩, bl⟩ := m
 simp only [] at hs hc
 subst hs
 obtain ⟨-, ⟨f0, f1, f2, f3, f4, f5⟩, hlt⟩ := h.facts
 obtain ⟨⟨c0, c1, c2, c3, c4, c5⟩, -, -⟩ := h.facts
 have c0 : w.cell? ⟨mb, 0, none⟩ = some (.int .i64 12) := c0
 simp only [] at c1 c2 c3 c4 c5
 have H := LH h; have HB := LH hb
 have hBw := h.hB
 clear h hb
 unfold ltVal
 simp only []
 have hM := H.out.alloc (.cells #[.int .i64 k, .string (str tx), .int .i64 n, .int .i64 a, .int .i64 b] 74)
 have hX : Below B w (w.alloc (.cells #[.int .i64 k, .string (str tx), .int .i64 n, .int .i64 a, .int .i64 b] 74)) := (Below.refl B w).alloc hBw _
 have HM := LH hM; have HX := LH hX
 clear hM hX
 have HR := LH (show stepM ⟨12, ne, ⟨mo, no, sg⟩, bl⟩ ⟨k, tx, n, a, b⟩ = sideM ⟨12, ne, ⟨mo, no, sg⟩, bl⟩ ⟨k, tx, n, a, b⟩ 13 from rfl)
 have HSD := LH (show _ from side_any ⟨k, tx, n, a, b⟩ 13 (w.alloc (.cells #[.int .i64 k, .string (str tx), .int .i64 n, .int .i64 a, .int .i64 b] 74)) B mb v ⟨12, ne, ⟨mo, no, sg⟩, bl⟩ HM.out)
 go_enter Tryd.func63, Tryd.ntmps63
 go_wp2
 refine wp_scope_fwd 0 rfl ?_
 intro J HJ
 clear HJ
 go_wp2_with fail
 refine HSD.out.mono ?_
 intro e w3 h3
 cases hbm : sideM ⟨12, ne, ⟨mo, no, sg⟩, bl⟩ ⟨k, tx, n, a, b⟩ 13 with
 | none =>
  unfold StRet at h3; rw [hbm] at h3
  obtain ⟨hb3, rfl⟩ := h3
  have HB3 := LH (HX.out.trans hb3)
  have HBM := LH hbm; clear hb3 hbm
  go_wp2
  refine jump_rt ?_
  go_ret
  exact StRet.bad HB3.out (HR.out.trans HBM.out) rfl
 | some m2 =>
  unfold StRet at h3; rw [hbm] at h3
  obtain ⟨hb3, rfl, v2, hm3⟩ := h3
  have HB3 := LH (HX.out.trans hb3); have HM3 := LH hm3
  have HBM := LH hbm; clear hb3 hm3 hbm
  go_wp2
  refine jump_rt ?_
  go_ret
  exact StRet.good HB3.out (HR.out.trans HBM.out) rfl HM3.out
theorem step13_any (t : Lt) (w : World) (B mb : Nat) (v : Value) (m : Mc) (h : McAt w B mb v m) (hb : McB m) (hc : m.at_.nots + m.nest ≤ 940000000000) (hs : m.state = 13) :
  Calls Tryd.prog 63 #[.pointer (some ⟨mb, 0, none⟩), ltVal t] w (StRet B mb w (stepM m t)) := by
 obtain ⟨k, tx, n, a, b⟩ := t
 obtain ⟨st, ne, ⟨mo, no, sg⟩, bl⟩ := m
 simp only [] at hs hc
 subst hs
 obtain ⟨-, ⟨f0, f1, f2, f3, f4, f5⟩, hlt⟩ := h.facts
 obtain ⟨⟨c0, c1, c2, c3, c4, c5⟩, -, -⟩ := h.facts
 have c0 : w.cell? ⟨mb, 0, none⟩ = some (.int .i64 13) := c0
 simp only [] at c1 c2 c3 c4 c5
 have H := LH h; have HB := LH hb
 have hBw := h.hB
 clear h hb
 unfold ltVal
 simp only []
 have hM := H.out.alloc (.cells #[.int .i64 k, .string (str tx), .int .i64 n, .int .i64 a, .int .i64 b] 74)
 have hX : Below B w (w.alloc (.cells #[.int .i64 k, .string (str tx), .int .i64 n, .int .i64 a, .int .i64 b] 74)) := (Below.refl B w).alloc hBw _
 have HM := LH hM; have HX := LH hX
 clear hM hX
 by_cases h11 : k = 11
 ·have e11 : (k == 11) = true := by simpa using h11
  have HR := LH (show stepM ⟨13, ne, ⟨mo, no, sg⟩, bl⟩ ⟨k, tx, n, a, b⟩ = some (Mc.to ⟨13, ne, ⟨mo, no, sg⟩, bl⟩ 9) from by unfold stepM; simp [h11])
  clear h11
  go_enter Tryd.func63, Tryd.ntmps63
  go_wp2
  refine wp_scope_fwd 0 rfl ?_
  intro J HJ
  clear HJ
  go_wp2
  refine jump_rt ?_
  go_ret
  exact StRet.good (((Below.refl B w).setCell (p := ⟨mb, 0, none⟩) H.out.hm _).alloc (by rw [set_size]; exact hBw) _) HR.out rfl ((H.out.setState 9).alloc _)
 by_cases h13 : k = 13
 ·have e13 : (k == 13) = true := by simpa using h13
  have e11 : (k == 11) = false := by simpa using h11
  have HR := LH (show stepM ⟨13, ne, ⟨mo, no, sg⟩, bl⟩ ⟨k, tx, n, a, b⟩ = some (Mc.to ⟨13, ne, ⟨mo, no, sg⟩, bl⟩ 9) from by unfold stepM; simp [h13])
  clear h11 h13
  go_enter Tryd.func63, Tryd.ntmps63
  go_wp2
  refine wp_scope_fwd 0 rfl ?_
  intro J HJ
  clear HJ
  go_wp2
  refine jump_rt ?_
  go_ret
  exact StRet.good (((Below.refl B w).setCell (p := ⟨mb, 0, none⟩) H.out.hm _).alloc (by rw [set_size]; exact hBw) _) HR.out rfl ((H.out.setState 9).alloc _)
 have e11 : (k == 11) = false := by simpa using h11
 have e13 : (k == 13) = false := by simpa using h13
 have HR := LH (show stepM ⟨13, ne, ⟨mo, no, sg⟩, bl⟩ ⟨k, tx, n, a, b⟩ = none from by unfold stepM; simp [h11, h13])
 clear h11 h13
 go_enter Tryd.func63, Tryd.ntmps63
 go_wp2
 refine wp_scope_fwd 0 rfl ?_
 intro J HJ
 clear HJ
 go_wp2
 refine jump_rt ?_
 go_ret
 exact StRet.bad (((Below.refl B w).setCell (p := ⟨mb, 0, none⟩) H.out.hm _).alloc (by rw [set_size]; exact hBw) _) HR.out rfl
theorem step14_any (t : Lt) (w : World) (B mb : Nat) (v : Value) (m : Mc) (h : McAt w B mb v m) (hs : m.state = 14) :
  Calls Tryd.prog 63 #[.pointer (some ⟨mb, 0, none⟩), ltVal t] w (StRet B mb w (stepM m t)) := by
 obtain ⟨k, tx, n, a, b⟩ := t
 obtain ⟨st, ne, ⟨mo, no, sg⟩, bl⟩ := m
 simp only [] at hs
 subst hs
 obtain ⟨-, ⟨f0, f1, f2, f3, f4, f5⟩, hlt⟩ := h.facts
 obtain ⟨⟨c0, c1, c2, c3, c4, c5⟩, -, -⟩ := h.facts
 have c0 : w.cell? ⟨mb, 0, none⟩ = some (.int .i64 14) := c0
 simp only [] at c1 c2 c3 c4 c5
 have H := LH h
 have hBw := h.hB
 clear h
 unfold ltVal
 simp only []
 have hM := H.out.alloc (.cells #[.int .i64 k, .string (str tx), .int .i64 n, .int .i64 a, .int .i64 b] 74)
 have hX : Below B w (w.alloc (.cells #[.int .i64 k, .string (str tx), .int .i64 n, .int .i64 a, .int .i64 b] 74)) := (Below.refl B w).alloc hBw _
 have HM := LH hM; have HX := LH hX
 clear hM hX
 have HR := LH (show stepM ⟨14, ne, ⟨mo, no, sg⟩, bl⟩ ⟨k, tx, n, a, b⟩ = none from rfl)
 go_enter Tryd.func63, Tryd.ntmps63
 go_wp2
 refine wp_scope_fwd 0 rfl ?_
 intro J HJ
 clear HJ
 go_wp2
 refine jump_rt ?_
 go_ret
 exact StRet.bad HX.out HR.out rfl
theorem step_any (t : Lt) (w : World) (B mb : Nat) (v : Value) (m : Mc) (h : McAt w B mb v m) (hb : McB m) (hc : m.at_.nots + m.nest ≤ 940000000000) (hs : m.state ≤ 14) :
  Calls Tryd.prog 63 #[.pointer (some ⟨mb, 0, none⟩), ltVal t] w (StRet B mb w (stepM m t)) := by
 have h3 : m.state = 0 ∨ m.state = 1 ∨ m.state = 2 ∨ m.state = 3 ∨ m.state = 4 ∨ m.state = 5 ∨ m.state = 6 ∨ m.state = 7 ∨ m.state = 8 ∨ m.state = 9 ∨ m.state = 10 ∨ m.state = 11 ∨ m.state = 12 ∨ m.state = 13 ∨ m.state = 14 := by omega
 rcases h3 with h3 | h3 | h3 | h3 | h3 | h3 | h3 | h3 | h3 | h3 | h3 | h3 | h3 | h3 | h3
 ·have e : stepM m t = clauseM m t := by unfold stepM; simp [h3]
  rw [e]; exact step_clause_any t w B mb v m h hb h3
 ·have e : stepM m t = unaryM m t := by unfold stepM; simp [h3]
  rw [e]; exact step_unary_any t w B mb v m h hb h3
 ·have e : stepM m t = bodyM m t := by unfold stepM; simp [h3]
  rw [e]; exact step_body_any t w B mb v m h hb h3
 ·exact step3_any t w B mb v m h hb hc h3
 ·exact step4_any t w B mb v m h hb hc h3
 ·exact step5_any t w B mb v m h hb hc h3
 ·exact step6_any t w B mb v m h hb hc h3
 ·exact step7_any t w B mb v m h hb hc h3
 ·exact step8_any t w B mb v m h hb hc h3
 ·exact step9_any t w B mb v m h hb hc h3
 ·exact step10_any t w B mb v m h hb hc h3
 ·exact step11_any t w B mb v m h hb hc h3
 ·exact step12_any t w B mb v m h hb hc h3
 ·exact step13_any t w B mb v m h hb hc h3
 ·exact step14_any t w B mb v m h h3
end Go.Proofs.YthcldpminmhgkaaDoor
end
section
namespace Go.Proofs.YthcldpminmhgkaaDoor
theorem D.nest_le {p : Pt} {A : List Lt} {n : Nat} {v : Vl} (h : D p A n v) : n ≤ A.length := by
 induction h <;> (try simp only [List.length_cons, List.length_append, List.length_nil] at *) <;> omega
theorem OptD.le {p : Pt} {ts : List Lt} {n : Nat} (h : OptD p ts n) : n ≤ ts.length := by
 rcases h with ⟨rfl, rfl⟩ | ⟨v, h⟩
 ·exact Nat.zero_le _
 ·exact h.nest_le
theorem OptM.le {p : Pt} {k : Int} {ts : List Lt} {n : Nat} (h : OptM p k ts n) : n ≤ ts.length := by
 rcases h with ⟨rfl, rfl⟩ | ⟨A, b, v, rfl, _, h⟩
 ·exact Nat.zero_le _
 ·have := h.nest_le
  rw [List.length_append]; omega
theorem LC.le {S : List Lt} {sg : Bool} {n : Nat} (h : LC S sg n) : n ≤ S.length := by
 cases h with
 | signed hL hs => have := hL.le; rw [List.length_append]; omega
 | plain hL hO hA hM =>
  have h1 := hL.le; have h2 := hO.le; have h3 := hA.le; have h4 := hM.le
  simp only [List.length_append]; omega
theorem UC.le {lv : Lev} {U : List Lt} (h : UC lv U) : lv.most + lv.nots ≤ U.length := by
 obtain ⟨S, N, hS, hN, hl, rfl⟩ := h
 have := hS.le
 rw [List.length_append]; omega
theorem BC.le {lv : Lev} {U : List Lt} (h : BC lv U) : lv.most + lv.nots ≤ U.length := by
 obtain ⟨U, w, c, hU, _, _, rfl⟩ := h
 have := hU.le
 rw [List.length_append]; omega
theorem FC.le {lv : Lev} {U : List Lt} (h : FC lv U) : lv.most + lv.nots ≤ U.length := by
 rcases h with h | h
 ·exact h.le
 ·exact h.le
theorem Piece.le {lv : Lev} {n : Nat} {ts : List Lt} (h : Piece lv n ts) : lv.most + lv.nots + n ≤ ts.length := by
 obtain ⟨U, P, v, hU, hP, rfl⟩ := h
 have h1 := hU.le; have h2 := hP.nest_le
 rw [List.length_append]; omega
theorem Cur.le {st : Nat} {lv : Lev} {nest : Nat} {ts : List Lt} (h : Cur st lv nest ts) (h1 : st < 14) : lv.most + lv.nots + nest ≤ ts.length := by
 have h3 : st = 0 ∨ st = 1 ∨ st = 2 ∨ st = 3 ∨ st = 4 ∨ st = 5 ∨ st = 6 ∨ st = 7 ∨ st = 8 ∨ st = 9 ∨ st = 10 ∨ st = 11 ∨ st = 12 ∨ st = 13 := by omega
 unfold Cur at h
 rcases h3 with rfl | rfl | rfl | rfl | rfl | rfl | rfl | rfl | rfl | rfl | rfl | rfl | rfl | rfl <;> simp only [Nat.reduceEqDiff, if_false, if_true, reduceIte] at h
 ·obtain ⟨h0, rfl, h⟩ := h
  have := h.le; omega
 ·obtain ⟨rfl, h⟩ := h
  have := h.le; omega
 ·obtain ⟨rfl, h⟩ := h
  have := h.le; omega
 ·obtain ⟨rfl, U, s, c, hU, _, _, rfl⟩ := h
  have := hU.le; rw [List.length_append]; omega
 ·obtain ⟨rfl, U, w, hU, _, rfl⟩ := h
  have := hU.le; rw [List.length_append]; omega
 ·obtain ⟨rfl, U, w, hU, _, rfl⟩ := h
  have := hU.le; rw [List.length_append]; omega
 ·obtain ⟨rfl, U, w, hU, _, rfl⟩ := h
  have := hU.le; rw [List.length_append]; omega
 ·obtain ⟨rfl, U, w, hU, _, rfl⟩ := h
  have := hU.le; rw [List.length_append]; omega
 ·obtain ⟨F, o, A, c, n, v, hF, _, hA, _, rfl, rfl⟩ := h
  have h1 := hF.le; have h2 := hA.nest_le
  simp only [List.length_append, List.length_cons, List.length_nil]; omega
 ·exact h.le
 ·obtain ⟨rfl, F, a, hF, _, rfl⟩ := h
  have := hF.le; rw [List.length_append]; omega
 ·obtain ⟨rfl, F, a, b, hF, _, _, rfl⟩ := h
  have := hF.le; rw [List.length_append]; omega
 ·obtain ⟨rfl, F, a, b, c, hF, _, _, _, rfl⟩ := h
  have := hF.le; rw [List.length_append]; omega
 ·obtain ⟨rfl, F, a, b, c, d, hF, _, _, _, _, rfl⟩ := h
  have := hF.le; rw [List.length_append]; omega
theorem Stk.le {bl : List Lev} {P : List Lt} (h : Stk bl P) : bl.length ≤ P.length := by
 induction h with
 | nil => exact Nat.le_refl _
 | push h hF ho ih => simp only [List.length_append, List.length_cons, List.length_nil]; omega
theorem Inv.le {m : Mc} {pre : List Lt} (h : Inv m pre) (h1 : m.state < 14) : m.at_.most + m.at_.nots + m.nest + m.below.length ≤ pre.length := by
 obtain ⟨P, C, rfl, hs, hc, _, _⟩ := h
 have h2 := hs.le; have h3 := hc.le h1
 rw [List.length_append]; omega
theorem Inv.st {m : Mc} {pre : List Lt} (h : Inv m pre) : m.state ≤ 14 := by
 obtain ⟨P, C, _, _, _, h, _⟩ := h
 exact h
theorem runI_at (l : List Lt) (m : Mc) (i k : Nat) (hk : k < l.length) : runI m i (l.drop k) = (match stepM m l[k] with | none => .inr i | some m' => runI m' (i + 1) (l.drop (k + 1))) := by
 rw [List.drop_eq_getElem_cons hk]; rfl
end Go.Proofs.YthcldpminmhgkaaDoor
end
section
namespace Go.Proofs.YthcldpminmhgkaaDoor
open Go.RowKit
theorem at_lt {w : World} {B : Nat} {A : Option Addr} {n cap : Nat} {ts : List Lt} (h : RdL ltS w B (.slice A n cap) ts) {k : Nat} (hk : k < ts.length) :
  ∃ a, A = some a ∧ (a.add (k * 5)).block < B ∧ w.cell? (a.add (k * 5)) = some (.int .i64 ts[k].kind) ∧
   w.cell? ⟨(a.add (k * 5)).block, (a.add (k * 5)).off + 1, none⟩ = some (.string (str ts[k].text)) ∧
   w.cell? ⟨(a.add (k * 5)).block, (a.add (k * 5)).off + 2, none⟩ = some (.int .i64 ts[k].n) ∧
   w.cell? ⟨(a.add (k * 5)).block, (a.add (k * 5)).off + 3, none⟩ = some (.int .i64 ts[k].at_) ∧
   w.cell? ⟨(a.add (k * 5)).block, (a.add (k * 5)).off + 4, none⟩ = some (.int .i64 ts[k].end_) := by
 obtain ⟨a, e, hb, h0, h1⟩ := h.at2 ltOk hk
 exact ⟨a, e, hb, h0 _ rfl, h1 0 _ (by decide) rfl, h1 1 _ (by decide) rfl, h1 2 _ (by decide) rfl, h1 3 _ (by decide) rfl⟩
def RunRet (ts : List Lt) (w : World) (e : Ending) (w' : World) : Prop :=
 Below w.heap.size w w' ∧ match runI mc0 0 ts with
  | .inl m => Inv m ts ∧ ∃ mb v, e = .returned (.tuple #[.pointer (some ⟨mb, 0, none⟩), .int .i64 (-1)]) ∧ McAt w' w.heap.size mb v m
  | .inr i => i < ts.length ∧ ∃ mb, e = .returned (.tuple #[.pointer (some ⟨mb, 0, none⟩), .int .i64 (i : Int)])
def RunRel (ts : List Lt) (w : World) (iv : Value) (wr : World) : Prop :=
 ∃ (k : Nat) (m : Mc) (v : Value), k ≤ ts.length ∧ iv = .int .i64 (k : Int) ∧ runI mc0 0 ts = runI m k (ts.drop k) ∧ Inv m (ts.take k) ∧ McAt wr w.heap.size w.heap.size v m ∧ Below w.heap.size w wr
theorem step_any2 (t : Lt) (w : World) (B mb : Nat) (v : Value) (m : Mc) (pre : List Lt) (h : McAt w B mb v m) (hi : Inv m pre) (hl : pre.length ≤ 940000000000) :
  Calls Tryd.prog 63 #[.pointer (some ⟨mb, 0, none⟩), ltVal t] w (StRet B mb w (stepM m t)) := by
 have h1 := hi.st
 by_cases h2 : m.state = 14
 ·exact step14_any t w B mb v m h h2
 ·have h3 := hi.le (by omega)
  exact step_any t w B mb v m h ⟨by omega, by omega, by omega, by omega⟩ (by omega) h1
theorem mrun_any (x : Value) (ts : List Lt) (w : World) (hx : RdL ltS w w.heap.size x ts) (hl : ts.length ≤ 940000000000) :
  Calls Tryd.prog 41 #[x] w (RunRet ts w) := by
 obtain ⟨A, cap, rfl, h1, h2⟩ := hx.open_
 have HX := LH hx
 clear hx
 have hM0 : McAt (w.alloc (.cells #[.int .i64 0, .int .i64 0, .int .i64 0, .int .i64 0, .bool false, .slice none 0 0] 79)) w.heap.size w.heap.size (.slice none 0 0) mc0 :=
  ⟨Blk.new w _ _, OwnL.nil _ _ _, by rw [World.size_alloc]; omega, Nat.le_refl _⟩
 have hB0 : Below w.heap.size w (w.alloc (.cells #[.int .i64 0, .int .i64 0, .int .i64 0, .int .i64 0, .bool false, .slice none 0 0] 79)) := (Below.refl _ _).alloc (Nat.le_refl _) _
 have HM0 := LH hM0; have HB0 := LH hB0
 clear hM0 hB0
 go_enter Tryd.func41, Tryd.ntmps41
 go_wp2
 go_loopw [11] (fun iv wr => RunRel ts w iv wr) (fun iv _ => ts.length - (intOf iv).toNat)
 case atStart => exact ⟨0, mc0, _, Nat.zero_le _, rfl, rfl, inv0, HM0.out, HB0.out⟩
 case round =>
  obtain ⟨k, m, v, hk, rfl, hr, hi, hm, hb⟩ := hrel
  have HR := LH hr; have HI := LH hi; have HM := LH hm; have HB := LH hb
  have HXr := LH (HX.out.below hb)
  have hsz : w.heap.size ≤ wr.heap.size := hb.size
  clear hr hi hm hb
  by_cases hlt : k < ts.length
  ·obtain ⟨a, rfl, hab, q0, q1, q2, q3, q4⟩ := at_lt HXr.out hlt
   have HS := LH (runI_at ts m k k hlt)
   have HTK := LH (show ts.take (k + 1) = ts.take k ++ [ts[k]] from List.take_succ_eq_append_getElem hlt)
   have hlk : (ts.take k).length ≤ 940000000000 := by rw [List.length_take]; omega
   generalize htk : ts[k] = t at *
   obtain ⟨tk, tx, tn, ta, te⟩ := t
   simp only [] at q0 q1 q2 q3 q4
   clear htk
   have hblk : Blk (wr.alloc (.cells #[.int .i64 tk, .string (str tx), .int .i64 tn, .int .i64 ta, .int .i64 te] 74)) wr.heap.size 74 #[.int .i64 tk, .string (str tx), .int .i64 tn, .int .i64 ta, .int .i64 te] := Blk.new _ _ _
   clear hblk
   have TOKW := LH (show _ from step_any2 ⟨tk, tx, tn, ta, te⟩ (wr.alloc (.cells #[.int .i64 tk, .string (str tx), .int .i64 tn, .int .i64 ta, .int .i64 te] 74)) w.heap.size w.heap.size v m _ (HM.out.alloc _) HI.out hlk)
   have hBX : Below w.heap.size w (wr.alloc (.cells #[.int .i64 tk, .string (str tx), .int .i64 tn, .int .i64 ta, .int .i64 te] 74)) := HB.out.alloc hsz _
   have HBX := LH hBX
   have hwk : IntKind.i64.wrap ((k : Int) + 1) = (k : Int) + 1 := IntWalk.i64_in _ (by omega)
   clear hBX
   go_wp2_with fail
   refine TOKW.out.mono ?_
   intro e w3 h3
   cases hst : stepM m ⟨tk, tx, tn, ta, te⟩ with
   | none =>
    unfold StRet at h3
    rw [hst] at h3
    obtain ⟨hb3, rfl⟩ := h3
    have HB3 := LH (HBX.out.trans hb3)
    have HRR := LH (show runI mc0 0 ts = .inr k from by rw [HR.out, HS.out, hst])
    clear hb3 hst
    go_wp2
    go_ret2
    exact ⟨HB3.out, by rw [HRR.out]; exact ⟨hlt, _, rfl⟩⟩
   | some m2 =>
    unfold StRet at h3
    rw [hst] at h3
    obtain ⟨hb3, rfl, v2, hm3⟩ := h3
    have HB3 := LH (HBX.out.trans hb3)
    have HM3 := LH hm3
    have HRR := LH (show runI mc0 0 ts = runI m2 (k + 1) (ts.drop (k + 1)) from by rw [HR.out, HS.out, hst])
    have HI2 := LH (show Inv m2 (ts.take (k + 1)) from by rw [HTK.out]; exact inv_step HI.out hst)
    clear hb3 hst hm3
    go_wp2
    go_roundw
    case rel => exact ⟨k + 1, m2, v2, by omega, by go_num, HRR.out, HI2.out, HM3.out, HB3.out⟩
    case measure => simp [intOf]; omega
  ·have hke : k = ts.length := by omega
   have HRR := LH (show runI mc0 0 ts = .inl m from by rw [HR.out, hke, List.drop_length]; rfl)
   have HI2 := LH (show Inv m ts from by have h := HI.out; rw [hke, List.take_length] at h; exact h)
   clear hke
   go_wp2
   go_ret2
   exact ⟨HB.out, by rw [HRR.out]; exact ⟨HI2.out, _, _, rfl, HM.out⟩⟩
def folS : Shape Int := { tS := 24, tE := 3, size := 1, bytes := 8, enc := fun x => [.int .i64 x], zero := .int .i64 0 }
theorem folOk : folS.Ok where
 under := Tryd.underlying24
 info := by kernel_rfl
 zs := rfl
 pos := by decide
 len := fun _ => rfl
 one := fun x u hu => by
  simp only [folS, List.mem_cons, List.not_mem_nil, or_false] at hu
  subst hu; rfl
 small := by decide
end Go.Proofs.YthcldpminmhgkaaDoor
end
