/- Merged for a claim by shake.py: Me Mz -/
import Derived.Test.YthcldpminmhgkaaDoorKxA
import Derived.Test.YthcldpminmhgkaaDoorKx9
set_option maxRecDepth 100000
set_option maxHeartbeats 8000000
set_option linter.unusedSimpArgs false
set_option linter.unusedVariables false
section
namespace Go.Proofs.YthcldpminmhgkaaDoor
open Go.RowKit
theorem wp_scope_fwd {Pr : Program} {c rest : Code} {Q : Exit → Act → World → Prop} {a : Act} {w : World} (l : Nat) (hf : findLabel c l = some rest)
  (first : ∀ J : Act → World → Prop, Hid (∀ a w, rest.wp Pr (Exit.jump l (fun _ _ => False) Q) a w → J a w) → c.wp Pr (Exit.jump l J Q) a w) : (Code.scope c).wp Pr Q a w := by
 refine wp_scope_jumps l (fun a w => rest.wp Pr (Exit.jump l (fun _ _ => False) Q) a w) (fun _ _ => 0) hf (first _ (fun _ _ h => h)) (fun a w h => Code.wp_mono (fun e a' w' hq => ?_) h)
 cases e <;> first | exact hq | exact absurd hq.2 id
theorem jump_rt {l : Nat} {J : Act → World → Prop} {Q : Exit → Act → World → Prop} {a : Act} {w : World} (h : Q .ret a w) : Exit.jump l J Q .ret a w := h
theorem step_clause_any (t : Lt) (w : World) (B mb : Nat) (v : Value) (m : Mc) (h : McAt w B mb v m) (hb : McB m) (hs : m.state = 0) :
  Calls Tryd.prog 63 #[.pointer (some ⟨mb, 0, none⟩), ltVal t] w (StRet B mb w (clauseM m t)) := by
 obtain ⟨k, tx, n, a, b⟩ := t
 obtain ⟨st, ne, ⟨mo, no, sg⟩, bl⟩ := m
 simp only [] at hs
 subst hs
 obtain ⟨-, ⟨f0, f1, f2, f3, f4, f5⟩, hlt⟩ := h.facts
 obtain ⟨⟨c0, c1, c2, c3, c4, c5⟩, -, -⟩ := h.facts
 have c0 : w.cell? ⟨mb, 0, none⟩ = some (.int .i64 0) := c0
 simp only [] at c1 c2 c3 c4 c5
 have hno : no ≤ 940000000000 := hb.nots
 have H := LH h; have HB := LH hb
 have hBw := h.hB
 clear h hb
 unfold ltVal
 simp only []
 by_cases h15 : k = 15
 ·have e15 : (k == 15) = true := by simpa using h15
  have HR := LH (show clauseM ⟨0, ne, ⟨mo, no, sg⟩, bl⟩ ⟨k, tx, n, a, b⟩ = some ⟨1, ne, ⟨mo, no, true⟩, bl⟩ from by unfold clauseM; rw [if_pos (by simp [h15])]; rfl)
  clear h15
  go_enter Tryd.func63, Tryd.ntmps63
  go_wp2
  refine wp_scope_fwd 0 rfl ?_
  intro J HJ
  go_wp2
  go_step3
  refine ⟨rfl, HJ.out _ _ ?_⟩
  go_wp2
  refine jump_rt ?_
  go_ret
  have g1 := H.out.set_ 4 (.bool false) ⟨0, ne, ⟨mo, no, false⟩, bl⟩ (by rfl) rfl
  have g2 := g1.set_ 4 (.bool true) ⟨0, ne, ⟨mo, no, true⟩, bl⟩ (by rfl) rfl
  have g3 := g2.set_ 0 (.int .i64 1) ⟨1, ne, ⟨mo, no, true⟩, bl⟩ (by rfl) rfl
  have hm := H.out.hm
  exact StRet.good (((((Below.refl B w).setCell (p := ⟨mb, 4, none⟩) hm _).setCell (p := ⟨mb, 4, none⟩) hm _).setCell (p := ⟨mb, 0, none⟩) hm _).alloc (by rw [set_size, set_size, set_size]; exact hBw) _) HR.out rfl (g3.alloc _)
 by_cases h16 : k = 16
 ·have e16 : (k == 16) = true := by simpa using h16
  have e15 : (k == 15) = false := by simpa using h15
  have HR := LH (show clauseM ⟨0, ne, ⟨mo, no, sg⟩, bl⟩ ⟨k, tx, n, a, b⟩ = some ⟨1, ne, ⟨mo, no, true⟩, bl⟩ from by unfold clauseM; rw [if_pos (by simp [h16])]; rfl)
  clear h15 h16
  go_enter Tryd.func63, Tryd.ntmps63
  go_wp2
  refine wp_scope_fwd 0 rfl ?_
  intro J HJ
  go_wp2
  go_step3
  refine ⟨rfl, HJ.out _ _ ?_⟩
  go_wp2
  refine jump_rt ?_
  go_ret
  have g1 := H.out.set_ 4 (.bool false) ⟨0, ne, ⟨mo, no, false⟩, bl⟩ (by rfl) rfl
  have g2 := g1.set_ 4 (.bool true) ⟨0, ne, ⟨mo, no, true⟩, bl⟩ (by rfl) rfl
  have g3 := g2.set_ 0 (.int .i64 1) ⟨1, ne, ⟨mo, no, true⟩, bl⟩ (by rfl) rfl
  have hm := H.out.hm
  exact StRet.good (((((Below.refl B w).setCell (p := ⟨mb, 4, none⟩) hm _).setCell (p := ⟨mb, 4, none⟩) hm _).setCell (p := ⟨mb, 0, none⟩) hm _).alloc (by rw [set_size, set_size, set_size]; exact hBw) _) HR.out rfl (g3.alloc _)
 have e15 : (k == 15) = false := by simpa using h15
 have e16 : (k == 16) = false := by simpa using h16
 have hcl : clauseM ⟨0, ne, ⟨mo, no, sg⟩, bl⟩ ⟨k, tx, n, a, b⟩ = unaryM ⟨0, ne, ⟨mo, no, false⟩, bl⟩ ⟨k, tx, n, a, b⟩ := by unfold clauseM; rw [if_neg (show ¬ (k = 15 ∨ k = 16) by omega)]; rfl
 rw [hcl]
 clear hcl h15 h16
 by_cases h6 : k = 6
 ·have e6 : (k == 6) = true := by simpa using h6
  have HR := LH (show unaryM ⟨0, ne, ⟨mo, no, false⟩, bl⟩ ⟨k, tx, n, a, b⟩ = some ⟨1, ne, ⟨mo, no + 1, false⟩, bl⟩ from by unfold unaryM; rw [if_pos h6])
  clear h6
  go_enter Tryd.func63, Tryd.ntmps63
  go_wp2
  refine wp_scope_fwd 0 rfl ?_
  intro J HJ
  go_wp2
  go_step3
  refine ⟨rfl, HJ.out _ _ ?_⟩
  go_wp2
  refine wp_label ?_
  go_wp2
  refine jump_rt ?_
  go_ret
  have g1 := H.out.set_ 4 (.bool false) ⟨0, ne, ⟨mo, no, false⟩, bl⟩ (by rfl) rfl
  have g2 := g1.set_ 3 (.int .i64 ((no : Int) + 1)) ⟨0, ne, ⟨mo, no + 1, false⟩, bl⟩ (by show _ = #[_, _, _, Value.int .i64 ((no + 1 : Nat) : Int), _, _]; rw [show ((no + 1 : Nat) : Int) = (no : Int) + 1 from rfl]; rfl) rfl
  have g3 := g2.set_ 0 (.int .i64 1) ⟨1, ne, ⟨mo, no + 1, false⟩, bl⟩ (by rfl) rfl
  have hm := H.out.hm
  exact StRet.good (((((Below.refl B w).setCell (p := ⟨mb, 4, none⟩) H.out.hm _).setCell (p := ⟨mb, 3, none⟩) hm _).setCell (p := ⟨mb, 0, none⟩) hm _).alloc (by rw [set_size, set_size, set_size]; exact hBw) _) HR.out rfl (g3.alloc _)
 have e6 : (k == 6) = false := by simpa using h6
 by_cases h1 : k = 1
 ·have e1 : (k == 1) = true := by simpa using h1
  have HR := LH (show unaryM ⟨0, ne, ⟨mo, no, false⟩, bl⟩ ⟨k, tx, n, a, b⟩ = some ⟨4, ne, ⟨mo, no, false⟩, bl⟩ from by unfold unaryM; rw [if_neg h6, if_pos h1]; rfl)
  clear h6 h1
  go_enter Tryd.func63, Tryd.ntmps63
  go_wp2
  refine wp_scope_fwd 0 rfl ?_
  intro J HJ
  go_wp2
  go_step3
  refine ⟨rfl, HJ.out _ _ ?_⟩
  go_wp2
  refine wp_label ?_
  go_wp2
  refine jump_rt ?_
  go_ret
  have g1 := H.out.set_ 4 (.bool false) ⟨0, ne, ⟨mo, no, false⟩, bl⟩ (by rfl) rfl
  have g3 := g1.set_ 0 (.int .i64 4) ⟨4, ne, ⟨mo, no, false⟩, bl⟩ (by rfl) rfl
  have hm := H.out.hm
  exact StRet.good ((((Below.refl B w).setCell (p := ⟨mb, 4, none⟩) H.out.hm _).setCell (p := ⟨mb, 0, none⟩) hm _).alloc (by rw [set_size, set_size]; exact hBw) _) HR.out rfl (g3.alloc _)
 have e1 : (k == 1) = false := by simpa using h1
 have hM := (H.out.set_ 4 (.bool false) ⟨0, ne, ⟨mo, no, false⟩, bl⟩ (by rfl) rfl).alloc (.cells #[.int .i64 k, .string (str tx), .int .i64 n, .int .i64 a, .int .i64 b] 74)
 have hX : Below B w ((w.setCell ⟨mb, 4, none⟩ (.bool false)).alloc (.cells #[.int .i64 k, .string (str tx), .int .i64 n, .int .i64 a, .int .i64 b] 74)) := ((Below.refl B w).setCell (p := ⟨mb, 4, none⟩) H.out.hm _).alloc (by rw [set_size]; exact hBw) _
 have HM := LH hM; have HX := LH hX
 clear hM hX
 have HST := LH (star_any ⟨k, tx, n, a, b⟩ ((w.setCell ⟨mb, 4, none⟩ (.bool false)).alloc (.cells #[.int .i64 k, .string (str tx), .int .i64 n, .int .i64 a, .int .i64 b] 74)))
 cases hst : starT ⟨k, tx, n, a, b⟩ with
 | true =>
  have HR := LH (show unaryM ⟨0, ne, ⟨mo, no, false⟩, bl⟩ ⟨k, tx, n, a, b⟩ = some ⟨6, ne, ⟨mo, no, false⟩, bl⟩ from by unfold unaryM; rw [if_neg h6, if_neg h1, if_pos hst]; rfl)
  have HV := LH hst
  clear h6 h1 hst
  go_enter Tryd.func63, Tryd.ntmps63
  go_wp2
  refine wp_scope_fwd 0 rfl ?_
  intro J HJ
  go_wp2
  go_step3
  refine ⟨rfl, HJ.out _ _ ?_⟩
  go_wp2
  refine wp_label ?_
  go_wp2_with fail
  refine HST.out.mono ?_
  rintro e w2 ⟨rfl, hb2⟩
  rw [HV.out]
  have HM2 := LH (HM.out.below hb2)
  have HX2 := LH (HX.out.trans (hb2.mono HM.out.hB))
  obtain ⟨-, ⟨q0, q1, q2, q3, q4, q5⟩, hlt2⟩ := HM2.out.facts
  obtain ⟨⟨d0, d1, d2, d3, d4, d5⟩, -, -⟩ := HM2.out.facts
  clear hb2
  go_wp2
  refine jump_rt ?_
  go_ret
  exact StRet.good (HX2.out.setCell (p := ⟨mb, 0, none⟩) H.out.hm _) HR.out rfl (HM2.out.set_ 0 (.int .i64 6) ⟨6, ne, ⟨mo, no, false⟩, bl⟩ (by rfl) rfl)
 | false =>
  have hun : unaryM ⟨0, ne, ⟨mo, no, false⟩, bl⟩ ⟨k, tx, n, a, b⟩ = bodyM ⟨0, ne, ⟨mo, no, false⟩, bl⟩ ⟨k, tx, n, a, b⟩ := by unfold unaryM; rw [if_neg h6, if_neg h1, if_neg (by rw [hst]; decide)]
  rw [hun]
  have HV := LH hst
  clear h6 h1 hst hun
  go_enter Tryd.func63, Tryd.ntmps63
  go_wp2
  refine wp_scope_fwd 0 rfl ?_
  intro J HJ
  go_wp2
  go_step3
  refine ⟨rfl, HJ.out _ _ ?_⟩
  go_wp2
  refine wp_label ?_
  go_wp2_with fail
  refine HST.out.mono ?_
  rintro e w2 ⟨rfl, hb2⟩
  rw [HV.out]
  have hM2 := HM.out.below hb2
  have HX2 := LH (HX.out.trans (hb2.mono HM.out.hB))
  have HT2 := LH ((Blk.new (w.setCell ⟨mb, 4, none⟩ (.bool false)) 74 #[.int .i64 k, .string (str tx), .int .i64 n, .int .i64 a, .int .i64 b]).belowW hb2)
  have hBD := body_any ⟨k, tx, n, a, b⟩ w2 B mb v _ hM2 ⟨HB.out.nest, HB.out.most, HB.out.nots, HB.out.below⟩
  have HBD := LH hBD
  have k0 := HT2.out.cell 0; have k1 := HT2.out.cell 1; have k2 := HT2.out.cell 2; have k3 := HT2.out.cell 3; have k4 := HT2.out.cell 4
  simp only [List.getElem?_toArray, List.getElem?_cons_zero, List.getElem?_cons_succ, set_size] at k0 k1 k2 k3 k4
  clear hb2 hM2 hBD
  go_wp2
  refine wp_label ?_
  go_wp2_with fail
  refine HBD.out.mono ?_
  intro e w3 h3
  cases hbm : bodyM ⟨0, ne, ⟨mo, no, false⟩, bl⟩ ⟨k, tx, n, a, b⟩ with
  | none =>
   unfold StRet at h3
   rw [hbm] at h3
   obtain ⟨hb3, rfl⟩ := h3
   have HB3 := LH (HX2.out.trans hb3)
   clear hb3
   have HBM := LH hbm
   clear hbm
   go_wp2
   refine jump_rt ?_
   go_ret
   exact StRet.bad HB3.out HBM.out rfl
  | some m2 =>
   unfold StRet at h3
   rw [hbm] at h3
   obtain ⟨hb3, rfl, v2, hm3⟩ := h3
   have HB3 := LH (HX2.out.trans hb3); have HM3 := LH hm3
   clear hb3 hm3
   have HBM := LH hbm
   clear hbm
   go_wp2
   refine jump_rt ?_
   go_ret
   exact StRet.good HB3.out HBM.out rfl HM3.out
theorem step_unary_any (t : Lt) (w : World) (B mb : Nat) (v : Value) (m : Mc) (h : McAt w B mb v m) (hb : McB m) (hs : m.state = 1) :
  Calls Tryd.prog 63 #[.pointer (some ⟨mb, 0, none⟩), ltVal t] w (StRet B mb w (unaryM m t)) := by
 obtain ⟨k, tx, n, a, b⟩ := t
 obtain ⟨st, ne, ⟨mo, no, sg⟩, bl⟩ := m
 simp only [] at hs
 subst hs
 obtain ⟨-, ⟨f0, f1, f2, f3, f4, f5⟩, hlt⟩ := h.facts
 obtain ⟨⟨c0, c1, c2, c3, c4, c5⟩, -, -⟩ := h.facts
 have c0 : w.cell? ⟨mb, 0, none⟩ = some (.int .i64 1) := c0
 simp only [] at c1 c2 c3 c4 c5
 have hno : no ≤ 940000000000 := hb.nots
 have H := LH h; have HB := LH hb
 have hBw := h.hB
 clear h hb
 unfold ltVal
 simp only []
 by_cases h6 : k = 6
 ·have e6 : (k == 6) = true := by simpa using h6
  have HR := LH (show unaryM ⟨1, ne, ⟨mo, no, sg⟩, bl⟩ ⟨k, tx, n, a, b⟩ = some ⟨1, ne, ⟨mo, no + 1, sg⟩, bl⟩ from by unfold unaryM; rw [if_pos h6])
  clear h6
  go_enter Tryd.func63, Tryd.ntmps63
  go_wp2
  refine wp_scope_fwd 1 rfl ?_
  intro J HJ
  go_wp2
  go_step3
  refine ⟨rfl, HJ.out _ _ ?_⟩
  go_wp2
  refine jump_rt ?_
  go_ret
  have g1 := H.out
  have g2 := g1.set_ 3 (.int .i64 ((no : Int) + 1)) ⟨1, ne, ⟨mo, no + 1, sg⟩, bl⟩ (by show _ = #[_, _, _, Value.int .i64 ((no + 1 : Nat) : Int), _, _]; rw [show ((no + 1 : Nat) : Int) = (no : Int) + 1 from rfl]; rfl) rfl
  have g3 := g2.set_ 0 (.int .i64 1) ⟨1, ne, ⟨mo, no + 1, sg⟩, bl⟩ (by rfl) rfl
  have hm := H.out.hm
  exact StRet.good ((((Below.refl B w).setCell (p := ⟨mb, 3, none⟩) hm _).setCell (p := ⟨mb, 0, none⟩) hm _).alloc (by rw [set_size, set_size]; exact hBw) _) HR.out rfl (g3.alloc _)
 have e6 : (k == 6) = false := by simpa using h6
 by_cases h1 : k = 1
 ·have e1 : (k == 1) = true := by simpa using h1
  have HR := LH (show unaryM ⟨1, ne, ⟨mo, no, sg⟩, bl⟩ ⟨k, tx, n, a, b⟩ = some ⟨4, ne, ⟨mo, no, sg⟩, bl⟩ from by unfold unaryM; rw [if_neg h6, if_pos h1]; rfl)
  clear h6 h1
  go_enter Tryd.func63, Tryd.ntmps63
  go_wp2
  refine wp_scope_fwd 1 rfl ?_
  intro J HJ
  go_wp2
  go_step3
  refine ⟨rfl, HJ.out _ _ ?_⟩
  go_wp2
  refine jump_rt ?_
  go_ret
  have g1 := H.out
  have g3 := g1.set_ 0 (.int .i64 4) ⟨4, ne, ⟨mo, no, sg⟩, bl⟩ (by rfl) rfl
  have hm := H.out.hm
  exact StRet.good (((Below.refl B w).setCell (p := ⟨mb, 0, none⟩) hm _).alloc (by rw [set_size]; exact hBw) _) HR.out rfl (g3.alloc _)
 have e1 : (k == 1) = false := by simpa using h1
 have hM := H.out.alloc (.cells #[.int .i64 k, .string (str tx), .int .i64 n, .int .i64 a, .int .i64 b] 74)
 have hX : Below B w (w.alloc (.cells #[.int .i64 k, .string (str tx), .int .i64 n, .int .i64 a, .int .i64 b] 74)) := (Below.refl B w).alloc hBw _
 have HM := LH hM; have HX := LH hX
 clear hM hX
 have HST := LH (star_any ⟨k, tx, n, a, b⟩ (w.alloc (.cells #[.int .i64 k, .string (str tx), .int .i64 n, .int .i64 a, .int .i64 b] 74)))
 cases hst : starT ⟨k, tx, n, a, b⟩ with
 | true =>
  have HR := LH (show unaryM ⟨1, ne, ⟨mo, no, sg⟩, bl⟩ ⟨k, tx, n, a, b⟩ = some ⟨6, ne, ⟨mo, no, sg⟩, bl⟩ from by unfold unaryM; rw [if_neg h6, if_neg h1, if_pos hst]; rfl)
  have HV := LH hst
  clear h6 h1 hst
  go_enter Tryd.func63, Tryd.ntmps63
  go_wp2
  refine wp_scope_fwd 1 rfl ?_
  intro J HJ
  go_wp2
  go_step3
  refine ⟨rfl, HJ.out _ _ ?_⟩
  go_wp2_with fail
  refine HST.out.mono ?_
  rintro e w2 ⟨rfl, hb2⟩
  rw [HV.out]
  have HM2 := LH (HM.out.below hb2)
  have HX2 := LH (HX.out.trans (hb2.mono HM.out.hB))
  obtain ⟨-, ⟨q0, q1, q2, q3, q4, q5⟩, hlt2⟩ := HM2.out.facts
  obtain ⟨⟨d0, d1, d2, d3, d4, d5⟩, -, -⟩ := HM2.out.facts
  clear hb2
  go_wp2
  refine jump_rt ?_
  go_ret
  exact StRet.good (HX2.out.setCell (p := ⟨mb, 0, none⟩) H.out.hm _) HR.out rfl (HM2.out.set_ 0 (.int .i64 6) ⟨6, ne, ⟨mo, no, sg⟩, bl⟩ (by rfl) rfl)
 | false =>
  have hun : unaryM ⟨1, ne, ⟨mo, no, sg⟩, bl⟩ ⟨k, tx, n, a, b⟩ = bodyM ⟨1, ne, ⟨mo, no, sg⟩, bl⟩ ⟨k, tx, n, a, b⟩ := by unfold unaryM; rw [if_neg h6, if_neg h1, if_neg (by rw [hst]; decide)]
  rw [hun]
  have HV := LH hst
  clear h6 h1 hst hun
  go_enter Tryd.func63, Tryd.ntmps63
  go_wp2
  refine wp_scope_fwd 1 rfl ?_
  intro J HJ
  go_wp2
  go_step3
  refine ⟨rfl, HJ.out _ _ ?_⟩
  go_wp2_with fail
  refine HST.out.mono ?_
  rintro e w2 ⟨rfl, hb2⟩
  rw [HV.out]
  have hM2 := HM.out.below hb2
  have HX2 := LH (HX.out.trans (hb2.mono HM.out.hB))
  have HT2 := LH ((Blk.new w 74 #[.int .i64 k, .string (str tx), .int .i64 n, .int .i64 a, .int .i64 b]).belowW hb2)
  have hBD := body_any ⟨k, tx, n, a, b⟩ w2 B mb v _ hM2 ⟨HB.out.nest, HB.out.most, HB.out.nots, HB.out.below⟩
  have HBD := LH hBD
  have k0 := HT2.out.cell 0; have k1 := HT2.out.cell 1; have k2 := HT2.out.cell 2; have k3 := HT2.out.cell 3; have k4 := HT2.out.cell 4
  simp only [List.getElem?_toArray, List.getElem?_cons_zero, List.getElem?_cons_succ] at k0 k1 k2 k3 k4
  clear hb2 hM2 hBD
  go_wp2
  refine wp_label ?_
  go_wp2_with fail
  refine HBD.out.mono ?_
  intro e w3 h3
  cases hbm : bodyM ⟨1, ne, ⟨mo, no, sg⟩, bl⟩ ⟨k, tx, n, a, b⟩ with
  | none =>
   unfold StRet at h3
   rw [hbm] at h3
   obtain ⟨hb3, rfl⟩ := h3
   have HB3 := LH (HX2.out.trans hb3)
   clear hb3
   have HBM := LH hbm
   clear hbm
   go_wp2
   refine jump_rt ?_
   go_ret
   exact StRet.bad HB3.out HBM.out rfl
  | some m2 =>
   unfold StRet at h3
   rw [hbm] at h3
   obtain ⟨hb3, rfl, v2, hm3⟩ := h3
   have HB3 := LH (HX2.out.trans hb3); have HM3 := LH hm3
   clear hb3 hm3
   have HBM := LH hbm
   clear hbm
   go_wp2
   refine jump_rt ?_
   go_ret
   exact StRet.good HB3.out HBM.out rfl HM3.out
theorem step_body_any (t : Lt) (w : World) (B mb : Nat) (v : Value) (m : Mc) (h : McAt w B mb v m) (hb : McB m) (hs : m.state = 2) :
  Calls Tryd.prog 63 #[.pointer (some ⟨mb, 0, none⟩), ltVal t] w (StRet B mb w (bodyM m t)) := by
 obtain ⟨k, tx, n, a, b⟩ := t
 obtain ⟨st, ne, ⟨mo, no, sg⟩, bl⟩ := m
 simp only [] at hs
 subst hs
 obtain ⟨-, ⟨f0, f1, f2, f3, f4, f5⟩, hlt⟩ := h.facts
 obtain ⟨⟨c0, c1, c2, c3, c4, c5⟩, -, -⟩ := h.facts
 have c0 : w.cell? ⟨mb, 0, none⟩ = some (.int .i64 2) := c0
 simp only [] at c1 c2 c3 c4 c5
 have hno : no ≤ 940000000000 := hb.nots
 have H := LH h; have HB := LH hb
 have hBw := h.hB
 clear h hb
 unfold ltVal
 simp only []
 have hM := H.out.alloc (.cells #[.int .i64 k, .string (str tx), .int .i64 n, .int .i64 a, .int .i64 b] 74)
 have hX : Below B w (w.alloc (.cells #[.int .i64 k, .string (str tx), .int .i64 n, .int .i64 a, .int .i64 b] 74)) := (Below.refl B w).alloc hBw _
 have HM := LH hM; have HX := LH hX
 clear hM hX
 have hBD := body_any ⟨k, tx, n, a, b⟩ (w.alloc (.cells #[.int .i64 k, .string (str tx), .int .i64 n, .int .i64 a, .int .i64 b] 74)) B mb v _ HM.out HB.out
 have HBD := LH hBD
 clear hBD
 go_enter Tryd.func63, Tryd.ntmps63
 go_wp2
 refine wp_scope_fwd 2 rfl ?_
 intro J HJ
 go_wp2
 go_step3
 refine ⟨rfl, HJ.out _ _ ?_⟩
 go_wp2_with fail
 refine HBD.out.mono ?_
 intro e w3 h3
 cases hbm : bodyM ⟨2, ne, ⟨mo, no, sg⟩, bl⟩ ⟨k, tx, n, a, b⟩ with
 | none =>
  unfold StRet at h3
  rw [hbm] at h3
  obtain ⟨hb3, rfl⟩ := h3
  have HB3 := LH (HX.out.trans hb3)
  clear hb3
  have HBM := LH hbm
  clear hbm
  go_wp2
  refine jump_rt ?_
  go_ret
  exact StRet.bad HB3.out HBM.out rfl
 | some m2 =>
  unfold StRet at h3
  rw [hbm] at h3
  obtain ⟨hb3, rfl, v2, hm3⟩ := h3
  have HB3 := LH (HX.out.trans hb3); have HM3 := LH hm3
  clear hb3 hm3
  have HBM := LH hbm
  clear hbm
  go_wp2
  refine jump_rt ?_
  go_ret
  exact StRet.good HB3.out HBM.out rfl HM3.out
theorem close_kept (w : World) (B mb : Nat) (v : Value) (m : Mc) (h : McAt w B mb v m) (hb : McB m) :
  Calls Tryd.prog 98 #[.pointer (some ⟨mb, 0, none⟩)] w fun e w' => e = .returned (.tuple #[]) ∧ Below B w w' ∧ McAt w' B mb v m.close ∧ ∀ g t cs, g ≠ mb → Blk w g t cs → Blk w' g t cs := by
 obtain ⟨⟨c0, c1, c2, c3, c4, c5⟩, ⟨f0, f1, f2, f3, f4, f5⟩, hlt⟩ := h.facts
 have H := LH h
 have hn1 := hb.nest; have hn2 := hb.most; have hn3 := hb.nots
 have hw1 : IntKind.i64.wrap ((m.at_.nots : Int) + (m.nest : Int)) = (m.at_.nots : Int) + (m.nest : Int) := IntWalk.i64_in _ (by omega)
 clear h hb
 go_enter Tryd.func98, Tryd.ntmps98
 go_wp2
 go_region
 have e : (if (m.at_.most : Int) < (m.at_.nots : Int) + (m.nest : Int) then (m.at_.nots : Int) + (m.nest : Int) else (m.at_.most : Int)) = ((max m.at_.most (m.at_.nots + m.nest) : Nat) : Int) := by
  split <;> omega
 generalize (if (m.at_.most : Int) < (m.at_.nots : Int) + (m.nest : Int) then (m.at_.nots : Int) + (m.nest : Int) else (m.at_.most : Int)) = z at *
 subst e
 go_wp2
 go_end0
 have h1 := H.out.set_ 2 (.int .i64 ((max m.at_.most (m.at_.nots + m.nest) : Nat) : Int)) ⟨m.state, m.nest, ⟨max m.at_.most (m.at_.nots + m.nest), m.at_.nots, m.at_.signed⟩, m.below⟩ (by rfl) rfl
 have h2 := h1.set_ 3 (.int .i64 0) ⟨m.state, m.nest, ⟨max m.at_.most (m.at_.nots + m.nest), 0, m.at_.signed⟩, m.below⟩ (by rfl) rfl
 have h3 := h2.set_ 1 (.int .i64 0) m.close (by rfl) rfl
 exact ⟨rfl, ((((Below.refl B w).setCell (p := ⟨mb, 2, none⟩) H.out.hm _).setCell (p := ⟨mb, 3, none⟩) H.out.hm _).setCell (p := ⟨mb, 1, none⟩) H.out.hm _).drew, h3.drew, fun g t cs hg hB => (((hB.far (p := ⟨mb, 2, none⟩) hg _).far (p := ⟨mb, 3, none⟩) hg _).far (p := ⟨mb, 1, none⟩) hg _).drew⟩
end Go.Proofs.YthcldpminmhgkaaDoor
end
