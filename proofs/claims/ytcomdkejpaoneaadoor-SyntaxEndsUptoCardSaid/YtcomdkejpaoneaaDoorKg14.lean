/- Merged for a claim by shake.py: Mc Md Me Mz -/
import Derived.Deep.RegionLaw
import Derived.Test.YtcomdkejpaoneaaDoorKg13
section
namespace Go.Proofs.YtcomdkejpaoneaaDoor
open Go.RowKit
set_option maxRecDepth 100000
set_option maxHeartbeats 8000000
set_option linter.unusedSimpArgs false
set_option linter.unusedVariables false
theorem levcell {w : World} {nb : Nat} {x : Lev} (h0 : w.cell? ⟨nb, 0, none⟩ = some (.int .i64 (x.most : Int))) (h1 : w.cell? ⟨nb, 1, none⟩ = some (.int .i64 (x.nots : Int))) (h2 : w.cell? ⟨nb, 2, none⟩ = some (.bool x.signed)) : ∀ j u, (levS.enc x)[j]? = some u → w.cell? ⟨nb, j, none⟩ = some u := by
  intro j u hj
  match j with
  | 0 => simp only [levS, List.getElem?_cons_zero] at hj; rw [← hj]; exact h0
  | 1 => simp only [levS, List.getElem?_cons_succ, List.getElem?_cons_zero] at hj; rw [← hj]; exact h1
  | 2 => simp only [levS, List.getElem?_cons_succ, List.getElem?_cons_zero] at hj; rw [← hj]; exact h2
  | j + 3 => simp [levS] at hj
theorem McAt.push {w w' : World} {B mb : Nat} {v v' : Value} {m : Mc} (h : McAt w B mb v m) (ho : OwnL levS w' B v' (m.below ++ [m.at_])) (hb : Below B w w') (hk : KeptBut w w' v) : McAt (w'.setCell ⟨mb, 5, none⟩ v') B mb v' ⟨m.state, m.nest, m.at_, m.below ++ [m.at_]⟩ := by
  have hbk := h.blk.keptL h.own (by decide) hk
  exact ⟨hbk.set_ 5 v', ho.farNe (ho.offBlk hbk (by decide)) _, by rw [set_size]; exact Nat.le_trans h.hB hb.size, h.hm⟩
theorem McAt.kept {w w' : World} {B mb : Nat} {v : Value} {m : Mc} (h : McAt w B mb v m) (hk : KeptBut w w' v) : w'.cell? ⟨mb, 5, none⟩ = some v ∧ w'.frozen? ⟨mb, 5, none⟩ = false ∧ w'.frozen? ⟨mb, 2, none⟩ = false ∧ w'.frozen? ⟨mb, 3, none⟩ = false ∧ w'.frozen? ⟨mb, 4, none⟩ = false ∧ w'.frozen? ⟨mb, 0, none⟩ = false ∧ w'.cell? ⟨mb, 2, none⟩ = some (.int .i64 (m.at_.most : Int)) ∧ w'.cell? ⟨mb, 3, none⟩ = some (.int .i64 (m.at_.nots : Int)) ∧ w'.cell? ⟨mb, 4, none⟩ = some (.bool m.at_.signed) ∧ w'.cell? ⟨mb, 0, none⟩ = some (.int .i64 (m.state : Int)) := by
  have hbk := h.blk.keptL h.own (by decide) hk
  exact ⟨hbk.cell 5, hbk.frozen 5, hbk.frozen 2, hbk.frozen 3, hbk.frozen 4, hbk.frozen 0, hbk.cell 2, hbk.cell 3, hbk.cell 4, hbk.cell 0⟩
theorem body_any (t : Lt) (w : World) (B mb : Nat) (v : Value) (m : Mc) (h : McAt w B mb v m) (hb : McB m) :
    Calls Tryd.prog 84 #[.pointer (some ⟨mb, 0, none⟩), ltVal t] w (StRet B mb w (bodyM m t)) := by
  obtain ⟨k, tx, n, a, b⟩ := t
  have hA := h.alloc (.cells #[.int .i64 k, .string (str tx), .int .i64 n, .int .i64 a, .int .i64 b] 49)
  have hBA : Below w.heap.size w (w.alloc (.cells #[.int .i64 k, .string (str tx), .int .i64 n, .int .i64 a, .int .i64 b] 49)) := (Below.refl _ _).alloc (Nat.le_refl _) _
  have H := Lib.hid h; have HA := Lib.hid hA; have HBA := Lib.hid hBA
  have HL := Lib.hid (show m.below.length + 1 ≤ 100000000000 by have := hb.below; omega)
  obtain ⟨-, ⟨f0, f1, f2, f3, f4, f5⟩, hlt⟩ := h.facts
  obtain ⟨⟨c0, c1, c2, c3, c4, c5⟩, -, -⟩ := h.facts
  clear hA hBA h hb
  unfold ltVal
  simp only []
  by_cases h1 : k = 1
  · subst h1
    have HR := Lib.hid (show bodyM m ⟨1, tx, n, a, b⟩ = some (m.to 5) from by unfold bodyM; simp)
    go_enter Tryd.func84, Tryd.ntmps84
    go_wp2
    go_ret
    exact StRet.good (((Below.refl B w).setCell (p := ⟨mb, 0, none⟩) H.out.hm _).alloc (by rw [set_size]; exact H.out.hB) _) HR.out rfl ((H.out.setState 5).alloc _)
  by_cases h2 : k = 2
  · subst h2
    have HR := Lib.hid (show bodyM m ⟨2, tx, n, a, b⟩ = some (m.to 9) from by unfold bodyM; simp)
    go_enter Tryd.func84, Tryd.ntmps84
    go_wp2
    go_ret
    exact StRet.good (((Below.refl B w).setCell (p := ⟨mb, 0, none⟩) H.out.hm _).alloc (by rw [set_size]; exact H.out.hB) _) HR.out rfl ((H.out.setState 9).alloc _)
  by_cases h3 : k = 3
  · subst h3
    have HR := Lib.hid (show bodyM m ⟨3, tx, n, a, b⟩ = some (m.to 7) from by unfold bodyM; simp)
    go_enter Tryd.func84, Tryd.ntmps84
    go_wp2
    go_ret
    exact StRet.good (((Below.refl B w).setCell (p := ⟨mb, 0, none⟩) H.out.hm _).alloc (by rw [set_size]; exact H.out.hB) _) HR.out rfl ((H.out.setState 7).alloc _)
  by_cases h10 : k = 10
  · subst h10
    have HR := Lib.hid (show bodyM m ⟨10, tx, n, a, b⟩ = some (m.to 10) from by unfold bodyM; simp)
    go_enter Tryd.func84, Tryd.ntmps84
    go_wp2
    go_ret
    exact StRet.good (((Below.refl B w).setCell (p := ⟨mb, 0, none⟩) H.out.hm _).alloc (by rw [set_size]; exact H.out.hB) _) HR.out rfl ((H.out.setState 10).alloc _)
  by_cases h12 : k = 12
  · subst h12
    have HR := Lib.hid (show bodyM m ⟨12, tx, n, a, b⟩ = some (m.to 10) from by unfold bodyM; simp)
    go_enter Tryd.func84, Tryd.ntmps84
    go_wp2
    go_ret
    exact StRet.good (((Below.refl B w).setCell (p := ⟨mb, 0, none⟩) H.out.hm _).alloc (by rw [set_size]; exact H.out.hB) _) HR.out rfl ((H.out.setState 10).alloc _)
  by_cases h8 : k = 8
  · subst h8
    have HR := Lib.hid (show bodyM m ⟨8, tx, n, a, b⟩ = some ⟨0, m.nest, lev0, m.below ++ [m.at_]⟩ from by unfold bodyM; simp)
    clear h1 h2 h3 h10 h12
    obtain ⟨A0, cap0, rfl, -, -⟩ := H.out.own.form
    have hBw := H.out.hB
    go_enter Tryd.func84, Tryd.ntmps84
    go_wp2
    go_region_law (first
      | ((with_reducible refine OwnL.stepAppendG levOk (B := B) (v := .slice A0 m.below.length cap0) (l := m.below) (McAt.own (B := B) (mb := mb) (v := .slice A0 m.below.length cap0) (m := m) (by (repeat (first | exact HA.out | with_reducible refine McAt.drew ?_ | with_reducible refine McAt.alloc ?_ _)); done)) m.at_ _ rfl _ _ rfl rfl rfl (by refine levcell ?_ ?_ ?_ <;> simp [World.cell?_alloc_new]) (McAt.hB (B := B) (mb := mb) (v := .slice A0 m.below.length cap0) (m := m) (by (repeat (first | exact HA.out | with_reducible refine McAt.drew ?_ | with_reducible refine McAt.alloc ?_ _)); done)) HL.out (fun g6 cp6 w6 q2 q3 q3k q4 q5 => ?_)); (have hM6 := McAt.push (B := B) (mb := mb) (v := .slice A0 m.below.length cap0) (m := m) (by (repeat (first | exact HA.out | with_reducible refine McAt.drew ?_ | with_reducible refine McAt.alloc ?_ _)); done) q2 q3 q3k); (have hK6 := McAt.kept (B := B) (mb := mb) (v := .slice A0 m.below.length cap0) (m := m) (by (repeat (first | exact HA.out | with_reducible refine McAt.drew ?_ | with_reducible refine McAt.alloc ?_ _)); done) q3k); (obtain ⟨m0, m1, m2, m3, m4, m5, m6, m7, m8, m9⟩ := hK6); clear q2 q3k q4))
    all_goals
      have HK6 := Lib.hid (Below.trans (B := B) (show Below B w _ from by (repeat (first | exact Below.refl _ _ | with_reducible refine Below.drew ?_ | with_reducible refine Below.alloc ?_ ?_ _)) <;> (first | exact hBw | (rw [World.size_alloc]; omega))) q3)
      have HM6 := Lib.hid hM6
      clear hM6 q3
      go_wp2
      go_ret
      have g1 := HM6.out.set_ 2 (.int .i64 0) ⟨m.state, m.nest, ⟨0, m.at_.nots, m.at_.signed⟩, m.below ++ [m.at_]⟩ (by rfl) rfl
      have g2 := g1.set_ 3 (.int .i64 0) ⟨m.state, m.nest, ⟨0, 0, m.at_.signed⟩, m.below ++ [m.at_]⟩ (by rfl) rfl
      have g3 := g2.set_ 4 (.bool false) ⟨m.state, m.nest, lev0, m.below ++ [m.at_]⟩ (by rfl) rfl
      have g4 := g3.set_ 0 (.int .i64 0) ⟨0, m.nest, lev0, m.below ++ [m.at_]⟩ (by rfl) rfl
      exact StRet.good (((((HK6.out.setCell (p := ⟨mb, 5, none⟩) HA.out.hm _).setCell (p := ⟨mb, 2, none⟩) HA.out.hm _).setCell (p := ⟨mb, 3, none⟩) HA.out.hm _).setCell (p := ⟨mb, 4, none⟩) HA.out.hm _).setCell (p := ⟨mb, 0, none⟩) HA.out.hm _) HR.out rfl g4
  · have HR := Lib.hid (show bodyM m ⟨k, tx, n, a, b⟩ = none from by unfold bodyM; rw [if_neg h1, if_neg h2, if_neg h3, if_neg (show ¬ (k = 10 ∨ k = 12) by omega), if_neg h8])
    have e1 : (k == 1) = false := by simpa using h1
    have e2 : (k == 2) = false := by simpa using h2
    have e3 : (k == 3) = false := by simpa using h3
    have e8 : (k == 8) = false := by simpa using h8
    have e10 : (k == 10) = false := by simpa using h10
    have e12 : (k == 12) = false := by simpa using h12
    clear h1 h2 h3 h8 h10 h12
    go_enter Tryd.func84, Tryd.ntmps84
    go_wp2
    go_ret
    exact StRet.bad (HBA.out.mono H.out.hB) HR.out rfl
end Go.Proofs.YtcomdkejpaoneaaDoor
end
section
namespace Go.Proofs.YtcomdkejpaoneaaDoor
open Go.RowKit
set_option maxRecDepth 100000
set_option maxHeartbeats 8000000
set_option linter.unusedSimpArgs false
set_option linter.unusedVariables false
theorem close_below (m : Mc) : m.close.below = m.below := rfl
theorem McAt.pop {w : World} {B mb : Nat} {A : Option Addr} {n cap : Nat} {m : Mc} {l : List Lev} {x : Lev} (h : McAt w B mb (.slice A n cap) m) (hl : m.below = l ++ [x]) : McAt (w.setCell ⟨mb, 5, none⟩ (.slice A l.length cap)) B mb (.slice A l.length cap) ⟨m.state, m.nest, m.at_, l⟩ := by
  have ho := h.own
  rw [hl] at ho
  have hp := ho.pop levOk
  exact ⟨h.blk.set_ 5 _, hp.farNe (hp.offBlk h.blk (by decide)) _, by rw [set_size]; exact h.hB, h.hm⟩
theorem shut_any (w : World) (B mb : Nat) (v : Value) (m : Mc) (h : McAt w B mb v m) (hb : McB m) :
    Calls Tryd.prog 98 #[.pointer (some ⟨mb, 0, none⟩)] w (StRet B mb w (shutM m)) := by
  have hcl := close_any w B mb v m h hb
  have H := Lib.hid h; have HB := Lib.hid hb; have HCL := Lib.hid hcl
  obtain ⟨A, cap, hv, hc1, hc2⟩ := h.own.form
  obtain ⟨-, ⟨f0, f1, f2, f3, f4, f5⟩, hlt⟩ := h.facts
  obtain ⟨⟨c0, c1, c2, c3, c4, c5⟩, -, -⟩ := h.facts
  clear h hb hcl
  rcases List.eq_nil_or_concat m.below with hbl | ⟨l, x, hbl⟩
  · have HR := Lib.hid (show shutM m = none from by unfold shutM; rw [hbl]; rfl)
    have hl : (m.below.length : Int) = 0 := by rw [hbl]; rfl
    have hl2 : ((m.below.length : Int) == 0) = true := by rw [hl]; rfl
    subst hv
    clear hbl
    go_enter Tryd.func98, Tryd.ntmps98
    go_wp2
    go_ret
    exact StRet.bad (Below.refl _ _) HR.out rfl
  · rw [List.concat_eq_append] at hbl
    have HR := Lib.hid (show shutM m = some ⟨8, max m.at_.most (m.at_.nots + m.nest) + 1, x, l⟩ from by unfold shutM; rw [hbl, List.getLast?_concat, List.dropLast_concat])
    have hlen : m.below.length = l.length + 1 := by rw [hbl]; simp
    rw [hlen] at hv hc1
    have hn := HB.out.below
    rw [hlen] at hn
    subst hv
    have HBL := Lib.hid hbl
    clear hbl hlen
    have hl2 : ((((l.length + 1 : Nat) : Int)) == 0) = false := by simp; omega
    go_enter Tryd.func98, Tryd.ntmps98
    go_wp2_with fail
    refine HCL.out.mono ?_
    rintro e w1 ⟨rfl, hb1, hm1⟩
    have HB1 := Lib.hid hb1; have HM1 := Lib.hid hm1
    have hb2 := HB.out.most; have hb3 := HB.out.nots; have hb4 := HB.out.nest
    have hmx : m.close.at_.most = max m.at_.most (m.at_.nots + m.nest) := rfl
    obtain ⟨-, ⟨q0, q1, q2, q3, q4, q5⟩, hlt2⟩ := hm1.facts
    obtain ⟨⟨d0, d1, d2, d3, d4, d5⟩, -, -⟩ := hm1.facts
    rw [hmx] at d2
    obtain ⟨mx, hmx2⟩ : ∃ mx, mx = max m.at_.most (m.at_.nots + m.nest) := ⟨_, rfl⟩
    rw [← hmx2] at d2
    have hmb : mx ≤ 2000000000 := by omega
    have HMX := Lib.hid hmx2
    have hown := hm1.own
    rw [close_below, HBL.out] at hown
    obtain ⟨g, hg, hcell⟩ := OwnL.at_ hown levOk (k := l.length) (by simp)
    subst hg
    have hx : (l ++ [x])[l.length]'(by simp) = x := by simp
    rw [hx] at hcell
    have k0 := hcell 0 _ (by decide) rfl
    have k1 := hcell 1 _ (by decide) rfl
    have k2 := hcell 2 _ (by decide) rfl
    have HOW := Lib.hid hown
    have hgm : g ≠ mb := hown.offBlk hm1.blk (by decide) g rfl
    have hgm2 : ¬ g = mb := hgm
    have hgm3 : ¬ mb = g := fun e => hgm e.symm
    clear hb1 hm1 hmx hmx2 hcell hx hown hgm
    simp only [Nat.add_zero, levS] at k0 k1 k2
    go_wp2
    go_region
    go_wp2
    go_region
    go_wp2
    go_ret
    have g1 := HM1.out.set_ 1 (.int .i64 ((mx : Int) + 1)) ⟨m.state, mx + 1, ⟨max m.at_.most (m.at_.nots + m.nest), 0, m.at_.signed⟩, m.below⟩ (by show _ = #[_, Value.int .i64 ((mx + 1 : Nat) : Int), _, _, _, _]; rw [show ((mx + 1 : Nat) : Int) = (mx : Int) + 1 from rfl]; rfl) rfl
    have g2 := g1.set_ 2 (.int .i64 (x.most : Int)) ⟨m.state, mx + 1, ⟨x.most, 0, m.at_.signed⟩, m.below⟩ (by rfl) rfl
    have g3 := g2.set_ 3 (.int .i64 (x.nots : Int)) ⟨m.state, mx + 1, ⟨x.most, x.nots, m.at_.signed⟩, m.below⟩ (by rfl) rfl
    have g4 := g3.set_ 4 (.bool x.signed) ⟨m.state, mx + 1, x, m.below⟩ (by rfl) rfl
    have g5 := g4.pop HBL.out
    have g6 := g5.set_ 0 (.int .i64 8) ⟨8, mx + 1, x, l⟩ (by rfl) rfl
    have hm := HM1.out.hm
    rw [← HMX.out] at HR
    exact StRet.good (((((((HB1.out.setCell (p := ⟨mb, 1, none⟩) hm _).setCell (p := ⟨mb, 2, none⟩) hm _).setCell (p := ⟨mb, 3, none⟩) hm _).setCell (p := ⟨mb, 4, none⟩) hm _).setCell (p := ⟨mb, 5, none⟩) hm _).setCell (p := ⟨mb, 0, none⟩) hm _).drew.drew) HR.out rfl g6.drew.drew
end Go.Proofs.YtcomdkejpaoneaaDoor
end
section
namespace Go.Proofs.YtcomdkejpaoneaaDoor
open Go.RowKit
set_option maxRecDepth 100000
set_option maxHeartbeats 8000000
set_option linter.unusedSimpArgs false
set_option linter.unusedVariables false
theorem wp_scope_fwd {Pr : Program} {c rest : Code} {Q : Exit → Act → World → Prop} {a : Act} {w : World} (l : Nat) (hf : findLabel c l = some rest)
    (first : ∀ J : Act → World → Prop, Hid (∀ a w, rest.wp Pr (Exit.jump l (fun _ _ => False) Q) a w → J a w) → c.wp Pr (Exit.jump l J Q) a w) : (Code.scope c).wp Pr Q a w := by
  refine wp_scope_jumps l (fun a w => rest.wp Pr (Exit.jump l (fun _ _ => False) Q) a w) (fun _ _ => 0) hf (first _ (fun _ _ h => h)) (fun a w h => Code.wp_mono (fun e a' w' hq => ?_) h)
  cases e <;> first | exact hq | exact absurd hq.2 id
theorem jump_rt {l : Nat} {J : Act → World → Prop} {Q : Exit → Act → World → Prop} {a : Act} {w : World} (h : Q .ret a w) : Exit.jump l J Q .ret a w := h
theorem step_clause_any (t : Lt) (w : World) (B mb : Nat) (v : Value) (m : Mc) (h : McAt w B mb v m) (hb : McB m) (hs : m.state = 0) :
    Calls Tryd.prog 50 #[.pointer (some ⟨mb, 0, none⟩), ltVal t] w (StRet B mb w (clauseM m t)) := by
  obtain ⟨k, tx, n, a, b⟩ := t
  obtain ⟨st, ne, ⟨mo, no, sg⟩, bl⟩ := m
  simp only [] at hs
  subst hs
  obtain ⟨-, ⟨f0, f1, f2, f3, f4, f5⟩, hlt⟩ := h.facts
  obtain ⟨⟨c0, c1, c2, c3, c4, c5⟩, -, -⟩ := h.facts
  have c0 : w.cell? ⟨mb, 0, none⟩ = some (.int .i64 0) := c0
  simp only [] at c1 c2 c3 c4 c5
  have hno : no ≤ 1000000000 := hb.nots
  have H := Lib.hid h; have HB := Lib.hid hb
  have hBw := h.hB
  clear h hb
  unfold ltVal
  simp only []
  by_cases h15 : k = 15
  · have e15 : (k == 15) = true := by simpa using h15
    have HR := Lib.hid (show clauseM ⟨0, ne, ⟨mo, no, sg⟩, bl⟩ ⟨k, tx, n, a, b⟩ = some ⟨1, ne, ⟨mo, no, true⟩, bl⟩ from by unfold clauseM; rw [if_pos (by simp [h15])]; rfl)
    clear h15
    go_enter Tryd.func50, Tryd.ntmps50
    go_wp2
    refine wp_scope_fwd 0 rfl ?_
    intro J HJ
    go_wp2
    go_step3
    refine ⟨rfl, HJ.out _ _ ?_⟩
    go_wp2
    refine jump_rt ?_
    go_ret
    have g1 := H.out.set_ 4 (.bool false) ⟨0, ne, ⟨mo, no, false⟩, bl⟩ (by rfl) rfl
    have g2 := g1.set_ 4 (.bool true) ⟨0, ne, ⟨mo, no, true⟩, bl⟩ (by rfl) rfl
    have g3 := g2.set_ 0 (.int .i64 1) ⟨1, ne, ⟨mo, no, true⟩, bl⟩ (by rfl) rfl
    have hm := H.out.hm
    exact StRet.good (((((Below.refl B w).setCell (p := ⟨mb, 4, none⟩) hm _).setCell (p := ⟨mb, 4, none⟩) hm _).setCell (p := ⟨mb, 0, none⟩) hm _).alloc (by rw [set_size, set_size, set_size]; exact hBw) _) HR.out rfl (g3.alloc _)
  by_cases h16 : k = 16
  · have e16 : (k == 16) = true := by simpa using h16
    have e15 : (k == 15) = false := by simpa using h15
    have HR := Lib.hid (show clauseM ⟨0, ne, ⟨mo, no, sg⟩, bl⟩ ⟨k, tx, n, a, b⟩ = some ⟨1, ne, ⟨mo, no, true⟩, bl⟩ from by unfold clauseM; rw [if_pos (by simp [h16])]; rfl)
    clear h15 h16
    go_enter Tryd.func50, Tryd.ntmps50
    go_wp2
    refine wp_scope_fwd 0 rfl ?_
    intro J HJ
    go_wp2
    go_step3
    refine ⟨rfl, HJ.out _ _ ?_⟩
    go_wp2
    refine jump_rt ?_
    go_ret
    have g1 := H.out.set_ 4 (.bool false) ⟨0, ne, ⟨mo, no, false⟩, bl⟩ (by rfl) rfl
    have g2 := g1.set_ 4 (.bool true) ⟨0, ne, ⟨mo, no, true⟩, bl⟩ (by rfl) rfl
    have g3 := g2.set_ 0 (.int .i64 1) ⟨1, ne, ⟨mo, no, true⟩, bl⟩ (by rfl) rfl
    have hm := H.out.hm
    exact StRet.good (((((Below.refl B w).setCell (p := ⟨mb, 4, none⟩) hm _).setCell (p := ⟨mb, 4, none⟩) hm _).setCell (p := ⟨mb, 0, none⟩) hm _).alloc (by rw [set_size, set_size, set_size]; exact hBw) _) HR.out rfl (g3.alloc _)
  have e15 : (k == 15) = false := by simpa using h15
  have e16 : (k == 16) = false := by simpa using h16
  have hcl : clauseM ⟨0, ne, ⟨mo, no, sg⟩, bl⟩ ⟨k, tx, n, a, b⟩ = unaryM ⟨0, ne, ⟨mo, no, false⟩, bl⟩ ⟨k, tx, n, a, b⟩ := by unfold clauseM; rw [if_neg (show ¬ (k = 15 ∨ k = 16) by omega)]; rfl
  rw [hcl]
  clear hcl h15 h16
  by_cases h6 : k = 6
  · have e6 : (k == 6) = true := by simpa using h6
    have HR := Lib.hid (show unaryM ⟨0, ne, ⟨mo, no, false⟩, bl⟩ ⟨k, tx, n, a, b⟩ = some ⟨1, ne, ⟨mo, no + 1, false⟩, bl⟩ from by unfold unaryM; rw [if_pos h6])
    clear h6
    go_enter Tryd.func50, Tryd.ntmps50
    go_wp2
    refine wp_scope_fwd 0 rfl ?_
    intro J HJ
    go_wp2
    go_step3
    refine ⟨rfl, HJ.out _ _ ?_⟩
    go_wp2
    refine wp_label ?_
    go_wp2
    refine jump_rt ?_
    go_ret
    have g1 := H.out.set_ 4 (.bool false) ⟨0, ne, ⟨mo, no, false⟩, bl⟩ (by rfl) rfl
    have g2 := g1.set_ 3 (.int .i64 ((no : Int) + 1)) ⟨0, ne, ⟨mo, no + 1, false⟩, bl⟩ (by show _ = #[_, _, _, Value.int .i64 ((no + 1 : Nat) : Int), _, _]; rw [show ((no + 1 : Nat) : Int) = (no : Int) + 1 from rfl]; rfl) rfl
    have g3 := g2.set_ 0 (.int .i64 1) ⟨1, ne, ⟨mo, no + 1, false⟩, bl⟩ (by rfl) rfl
    have hm := H.out.hm
    exact StRet.good (((((Below.refl B w).setCell (p := ⟨mb, 4, none⟩) H.out.hm _).setCell (p := ⟨mb, 3, none⟩) hm _).setCell (p := ⟨mb, 0, none⟩) hm _).alloc (by rw [set_size, set_size, set_size]; exact hBw) _) HR.out rfl (g3.alloc _)
  have e6 : (k == 6) = false := by simpa using h6
  by_cases h1 : k = 1
  · have e1 : (k == 1) = true := by simpa using h1
    have HR := Lib.hid (show unaryM ⟨0, ne, ⟨mo, no, false⟩, bl⟩ ⟨k, tx, n, a, b⟩ = some ⟨4, ne, ⟨mo, no, false⟩, bl⟩ from by unfold unaryM; rw [if_neg h6, if_pos h1]; rfl)
    clear h6 h1
    go_enter Tryd.func50, Tryd.ntmps50
    go_wp2
    refine wp_scope_fwd 0 rfl ?_
    intro J HJ
    go_wp2
    go_step3
    refine ⟨rfl, HJ.out _ _ ?_⟩
    go_wp2
    refine wp_label ?_
    go_wp2
    refine jump_rt ?_
    go_ret
    have g1 := H.out.set_ 4 (.bool false) ⟨0, ne, ⟨mo, no, false⟩, bl⟩ (by rfl) rfl
    have g3 := g1.set_ 0 (.int .i64 4) ⟨4, ne, ⟨mo, no, false⟩, bl⟩ (by rfl) rfl
    have hm := H.out.hm
    exact StRet.good ((((Below.refl B w).setCell (p := ⟨mb, 4, none⟩) H.out.hm _).setCell (p := ⟨mb, 0, none⟩) hm _).alloc (by rw [set_size, set_size]; exact hBw) _) HR.out rfl (g3.alloc _)
  have e1 : (k == 1) = false := by simpa using h1
  have hM := (H.out.set_ 4 (.bool false) ⟨0, ne, ⟨mo, no, false⟩, bl⟩ (by rfl) rfl).alloc (.cells #[.int .i64 k, .string (str tx), .int .i64 n, .int .i64 a, .int .i64 b] 49)
  have hX : Below B w ((w.setCell ⟨mb, 4, none⟩ (.bool false)).alloc (.cells #[.int .i64 k, .string (str tx), .int .i64 n, .int .i64 a, .int .i64 b] 49)) := ((Below.refl B w).setCell (p := ⟨mb, 4, none⟩) H.out.hm _).alloc (by rw [set_size]; exact hBw) _
  have HM := Lib.hid hM; have HX := Lib.hid hX
  clear hM hX
  have HST := Lib.hid (star_any ⟨k, tx, n, a, b⟩ ((w.setCell ⟨mb, 4, none⟩ (.bool false)).alloc (.cells #[.int .i64 k, .string (str tx), .int .i64 n, .int .i64 a, .int .i64 b] 49)))
  cases hst : starT ⟨k, tx, n, a, b⟩ with
  | true =>
    have HR := Lib.hid (show unaryM ⟨0, ne, ⟨mo, no, false⟩, bl⟩ ⟨k, tx, n, a, b⟩ = some ⟨6, ne, ⟨mo, no, false⟩, bl⟩ from by unfold unaryM; rw [if_neg h6, if_neg h1, if_pos hst]; rfl)
    have HV := Lib.hid hst
    clear h6 h1 hst
    go_enter Tryd.func50, Tryd.ntmps50
    go_wp2
    refine wp_scope_fwd 0 rfl ?_
    intro J HJ
    go_wp2
    go_step3
    refine ⟨rfl, HJ.out _ _ ?_⟩
    go_wp2
    refine wp_label ?_
    go_wp2_with fail
    refine HST.out.mono ?_
    rintro e w2 ⟨rfl, hb2⟩
    rw [HV.out]
    have HM2 := Lib.hid (HM.out.below hb2)
    have HX2 := Lib.hid (HX.out.trans (hb2.mono HM.out.hB))
    obtain ⟨-, ⟨q0, q1, q2, q3, q4, q5⟩, hlt2⟩ := HM2.out.facts
    obtain ⟨⟨d0, d1, d2, d3, d4, d5⟩, -, -⟩ := HM2.out.facts
    clear hb2
    go_wp2
    refine jump_rt ?_
    go_ret
    exact StRet.good (HX2.out.setCell (p := ⟨mb, 0, none⟩) H.out.hm _) HR.out rfl (HM2.out.set_ 0 (.int .i64 6) ⟨6, ne, ⟨mo, no, false⟩, bl⟩ (by rfl) rfl)
  | false =>
    have hun : unaryM ⟨0, ne, ⟨mo, no, false⟩, bl⟩ ⟨k, tx, n, a, b⟩ = bodyM ⟨0, ne, ⟨mo, no, false⟩, bl⟩ ⟨k, tx, n, a, b⟩ := by unfold unaryM; rw [if_neg h6, if_neg h1, if_neg (by rw [hst]; decide)]
    rw [hun]
    have HV := Lib.hid hst
    clear h6 h1 hst hun
    go_enter Tryd.func50, Tryd.ntmps50
    go_wp2
    refine wp_scope_fwd 0 rfl ?_
    intro J HJ
    go_wp2
    go_step3
    refine ⟨rfl, HJ.out _ _ ?_⟩
    go_wp2
    refine wp_label ?_
    go_wp2_with fail
    refine HST.out.mono ?_
    rintro e w2 ⟨rfl, hb2⟩
    rw [HV.out]
    have hM2 := HM.out.below hb2
    have HX2 := Lib.hid (HX.out.trans (hb2.mono HM.out.hB))
    have HT2 := Lib.hid ((Blk.new (w.setCell ⟨mb, 4, none⟩ (.bool false)) 49 #[.int .i64 k, .string (str tx), .int .i64 n, .int .i64 a, .int .i64 b]).belowW hb2)
    have hBD := body_any ⟨k, tx, n, a, b⟩ w2 B mb v _ hM2 ⟨HB.out.nest, HB.out.most, HB.out.nots, HB.out.below⟩
    have HBD := Lib.hid hBD
    have k0 := HT2.out.cell 0; have k1 := HT2.out.cell 1; have k2 := HT2.out.cell 2; have k3 := HT2.out.cell 3; have k4 := HT2.out.cell 4
    simp only [List.getElem?_toArray, List.getElem?_cons_zero, List.getElem?_cons_succ, set_size] at k0 k1 k2 k3 k4
    clear hb2 hM2 hBD
    go_wp2
    refine wp_label ?_
    go_wp2_with fail
    refine HBD.out.mono ?_
    intro e w3 h3
    cases hbm : bodyM ⟨0, ne, ⟨mo, no, false⟩, bl⟩ ⟨k, tx, n, a, b⟩ with
    | none =>
      unfold StRet at h3
      rw [hbm] at h3
      obtain ⟨hb3, rfl⟩ := h3
      have HB3 := Lib.hid (HX2.out.trans hb3)
      clear hb3
      have HBM := Lib.hid hbm
      clear hbm
      go_wp2
      refine jump_rt ?_
      go_ret
      exact StRet.bad HB3.out HBM.out rfl
    | some m2 =>
      unfold StRet at h3
      rw [hbm] at h3
      obtain ⟨hb3, rfl, v2, hm3⟩ := h3
      have HB3 := Lib.hid (HX2.out.trans hb3); have HM3 := Lib.hid hm3
      clear hb3 hm3
      have HBM := Lib.hid hbm
      clear hbm
      go_wp2
      refine jump_rt ?_
      go_ret
      exact StRet.good HB3.out HBM.out rfl HM3.out
theorem step_unary_any (t : Lt) (w : World) (B mb : Nat) (v : Value) (m : Mc) (h : McAt w B mb v m) (hb : McB m) (hs : m.state = 1) :
    Calls Tryd.prog 50 #[.pointer (some ⟨mb, 0, none⟩), ltVal t] w (StRet B mb w (unaryM m t)) := by
  obtain ⟨k, tx, n, a, b⟩ := t
  obtain ⟨st, ne, ⟨mo, no, sg⟩, bl⟩ := m
  simp only [] at hs
  subst hs
  obtain ⟨-, ⟨f0, f1, f2, f3, f4, f5⟩, hlt⟩ := h.facts
  obtain ⟨⟨c0, c1, c2, c3, c4, c5⟩, -, -⟩ := h.facts
  have c0 : w.cell? ⟨mb, 0, none⟩ = some (.int .i64 1) := c0
  simp only [] at c1 c2 c3 c4 c5
  have hno : no ≤ 1000000000 := hb.nots
  have H := Lib.hid h; have HB := Lib.hid hb
  have hBw := h.hB
  clear h hb
  unfold ltVal
  simp only []
  by_cases h6 : k = 6
  · have e6 : (k == 6) = true := by simpa using h6
    have HR := Lib.hid (show unaryM ⟨1, ne, ⟨mo, no, sg⟩, bl⟩ ⟨k, tx, n, a, b⟩ = some ⟨1, ne, ⟨mo, no + 1, sg⟩, bl⟩ from by unfold unaryM; rw [if_pos h6])
    clear h6
    go_enter Tryd.func50, Tryd.ntmps50
    go_wp2
    refine wp_scope_fwd 1 rfl ?_
    intro J HJ
    go_wp2
    go_step3
    refine ⟨rfl, HJ.out _ _ ?_⟩
    go_wp2
    refine jump_rt ?_
    go_ret
    have g1 := H.out
    have g2 := g1.set_ 3 (.int .i64 ((no : Int) + 1)) ⟨1, ne, ⟨mo, no + 1, sg⟩, bl⟩ (by show _ = #[_, _, _, Value.int .i64 ((no + 1 : Nat) : Int), _, _]; rw [show ((no + 1 : Nat) : Int) = (no : Int) + 1 from rfl]; rfl) rfl
    have g3 := g2.set_ 0 (.int .i64 1) ⟨1, ne, ⟨mo, no + 1, sg⟩, bl⟩ (by rfl) rfl
    have hm := H.out.hm
    exact StRet.good ((((Below.refl B w).setCell (p := ⟨mb, 3, none⟩) hm _).setCell (p := ⟨mb, 0, none⟩) hm _).alloc (by rw [set_size, set_size]; exact hBw) _) HR.out rfl (g3.alloc _)
  have e6 : (k == 6) = false := by simpa using h6
  by_cases h1 : k = 1
  · have e1 : (k == 1) = true := by simpa using h1
    have HR := Lib.hid (show unaryM ⟨1, ne, ⟨mo, no, sg⟩, bl⟩ ⟨k, tx, n, a, b⟩ = some ⟨4, ne, ⟨mo, no, sg⟩, bl⟩ from by unfold unaryM; rw [if_neg h6, if_pos h1]; rfl)
    clear h6 h1
    go_enter Tryd.func50, Tryd.ntmps50
    go_wp2
    refine wp_scope_fwd 1 rfl ?_
    intro J HJ
    go_wp2
    go_step3
    refine ⟨rfl, HJ.out _ _ ?_⟩
    go_wp2
    refine jump_rt ?_
    go_ret
    have g1 := H.out
    have g3 := g1.set_ 0 (.int .i64 4) ⟨4, ne, ⟨mo, no, sg⟩, bl⟩ (by rfl) rfl
    have hm := H.out.hm
    exact StRet.good (((Below.refl B w).setCell (p := ⟨mb, 0, none⟩) hm _).alloc (by rw [set_size]; exact hBw) _) HR.out rfl (g3.alloc _)
  have e1 : (k == 1) = false := by simpa using h1
  have hM := H.out.alloc (.cells #[.int .i64 k, .string (str tx), .int .i64 n, .int .i64 a, .int .i64 b] 49)
  have hX : Below B w (w.alloc (.cells #[.int .i64 k, .string (str tx), .int .i64 n, .int .i64 a, .int .i64 b] 49)) := (Below.refl B w).alloc hBw _
  have HM := Lib.hid hM; have HX := Lib.hid hX
  clear hM hX
  have HST := Lib.hid (star_any ⟨k, tx, n, a, b⟩ (w.alloc (.cells #[.int .i64 k, .string (str tx), .int .i64 n, .int .i64 a, .int .i64 b] 49)))
  cases hst : starT ⟨k, tx, n, a, b⟩ with
  | true =>
    have HR := Lib.hid (show unaryM ⟨1, ne, ⟨mo, no, sg⟩, bl⟩ ⟨k, tx, n, a, b⟩ = some ⟨6, ne, ⟨mo, no, sg⟩, bl⟩ from by unfold unaryM; rw [if_neg h6, if_neg h1, if_pos hst]; rfl)
    have HV := Lib.hid hst
    clear h6 h1 hst
    go_enter Tryd.func50, Tryd.ntmps50
    go_wp2
    refine wp_scope_fwd 1 rfl ?_
    intro J HJ
    go_wp2
    go_step3
    refine ⟨rfl, HJ.out _ _ ?_⟩
    go_wp2_with fail
    refine HST.out.mono ?_
    rintro e w2 ⟨rfl, hb2⟩
    rw [HV.out]
    have HM2 := Lib.hid (HM.out.below hb2)
    have HX2 := Lib.hid (HX.out.trans (hb2.mono HM.out.hB))
    obtain ⟨-, ⟨q0, q1, q2, q3, q4, q5⟩, hlt2⟩ := HM2.out.facts
    obtain ⟨⟨d0, d1, d2, d3, d4, d5⟩, -, -⟩ := HM2.out.facts
    clear hb2
    go_wp2
    refine jump_rt ?_
    go_ret
    exact StRet.good (HX2.out.setCell (p := ⟨mb, 0, none⟩) H.out.hm _) HR.out rfl (HM2.out.set_ 0 (.int .i64 6) ⟨6, ne, ⟨mo, no, sg⟩, bl⟩ (by rfl) rfl)
  | false =>
    have hun : unaryM ⟨1, ne, ⟨mo, no, sg⟩, bl⟩ ⟨k, tx, n, a, b⟩ = bodyM ⟨1, ne, ⟨mo, no, sg⟩, bl⟩ ⟨k, tx, n, a, b⟩ := by unfold unaryM; rw [if_neg h6, if_neg h1, if_neg (by rw [hst]; decide)]
    rw [hun]
    have HV := Lib.hid hst
    clear h6 h1 hst hun
    go_enter Tryd.func50, Tryd.ntmps50
    go_wp2
    refine wp_scope_fwd 1 rfl ?_
    intro J HJ
    go_wp2
    go_step3
    refine ⟨rfl, HJ.out _ _ ?_⟩
    go_wp2_with fail
    refine HST.out.mono ?_
    rintro e w2 ⟨rfl, hb2⟩
    rw [HV.out]
    have hM2 := HM.out.below hb2
    have HX2 := Lib.hid (HX.out.trans (hb2.mono HM.out.hB))
    have HT2 := Lib.hid ((Blk.new w 49 #[.int .i64 k, .string (str tx), .int .i64 n, .int .i64 a, .int .i64 b]).belowW hb2)
    have hBD := body_any ⟨k, tx, n, a, b⟩ w2 B mb v _ hM2 ⟨HB.out.nest, HB.out.most, HB.out.nots, HB.out.below⟩
    have HBD := Lib.hid hBD
    have k0 := HT2.out.cell 0; have k1 := HT2.out.cell 1; have k2 := HT2.out.cell 2; have k3 := HT2.out.cell 3; have k4 := HT2.out.cell 4
    simp only [List.getElem?_toArray, List.getElem?_cons_zero, List.getElem?_cons_succ] at k0 k1 k2 k3 k4
    clear hb2 hM2 hBD
    go_wp2
    refine wp_label ?_
    go_wp2_with fail
    refine HBD.out.mono ?_
    intro e w3 h3
    cases hbm : bodyM ⟨1, ne, ⟨mo, no, sg⟩, bl⟩ ⟨k, tx, n, a, b⟩ with
    | none =>
      unfold StRet at h3
      rw [hbm] at h3
      obtain ⟨hb3, rfl⟩ := h3
      have HB3 := Lib.hid (HX2.out.trans hb3)
      clear hb3
      have HBM := Lib.hid hbm
      clear hbm
      go_wp2
      refine jump_rt ?_
      go_ret
      exact StRet.bad HB3.out HBM.out rfl
    | some m2 =>
      unfold StRet at h3
      rw [hbm] at h3
      obtain ⟨hb3, rfl, v2, hm3⟩ := h3
      have HB3 := Lib.hid (HX2.out.trans hb3); have HM3 := Lib.hid hm3
      clear hb3 hm3
      have HBM := Lib.hid hbm
      clear hbm
      go_wp2
      refine jump_rt ?_
      go_ret
      exact StRet.good HB3.out HBM.out rfl HM3.out
theorem step_body_any (t : Lt) (w : World) (B mb : Nat) (v : Value) (m : Mc) (h : McAt w B mb v m) (hb : McB m) (hs : m.state = 2) :
    Calls Tryd.prog 50 #[.pointer (some ⟨mb, 0, none⟩), ltVal t] w (StRet B mb w (bodyM m t)) := by
  obtain ⟨k, tx, n, a, b⟩ := t
  obtain ⟨st, ne, ⟨mo, no, sg⟩, bl⟩ := m
  simp only [] at hs
  subst hs
  obtain ⟨-, ⟨f0, f1, f2, f3, f4, f5⟩, hlt⟩ := h.facts
  obtain ⟨⟨c0, c1, c2, c3, c4, c5⟩, -, -⟩ := h.facts
  have c0 : w.cell? ⟨mb, 0, none⟩ = some (.int .i64 2) := c0
  simp only [] at c1 c2 c3 c4 c5
  have hno : no ≤ 1000000000 := hb.nots
  have H := Lib.hid h; have HB := Lib.hid hb
  have hBw := h.hB
  clear h hb
  unfold ltVal
  simp only []
  have hM := H.out.alloc (.cells #[.int .i64 k, .string (str tx), .int .i64 n, .int .i64 a, .int .i64 b] 49)
  have hX : Below B w (w.alloc (.cells #[.int .i64 k, .string (str tx), .int .i64 n, .int .i64 a, .int .i64 b] 49)) := (Below.refl B w).alloc hBw _
  have HM := Lib.hid hM; have HX := Lib.hid hX
  clear hM hX
  have hBD := body_any ⟨k, tx, n, a, b⟩ (w.alloc (.cells #[.int .i64 k, .string (str tx), .int .i64 n, .int .i64 a, .int .i64 b] 49)) B mb v _ HM.out HB.out
  have HBD := Lib.hid hBD
  clear hBD
  go_enter Tryd.func50, Tryd.ntmps50
  go_wp2
  refine wp_scope_fwd 2 rfl ?_
  intro J HJ
  go_wp2
  go_step3
  refine ⟨rfl, HJ.out _ _ ?_⟩
  go_wp2_with fail
  refine HBD.out.mono ?_
  intro e w3 h3
  cases hbm : bodyM ⟨2, ne, ⟨mo, no, sg⟩, bl⟩ ⟨k, tx, n, a, b⟩ with
  | none =>
    unfold StRet at h3
    rw [hbm] at h3
    obtain ⟨hb3, rfl⟩ := h3
    have HB3 := Lib.hid (HX.out.trans hb3)
    clear hb3
    have HBM := Lib.hid hbm
    clear hbm
    go_wp2
    refine jump_rt ?_
    go_ret
    exact StRet.bad HB3.out HBM.out rfl
  | some m2 =>
    unfold StRet at h3
    rw [hbm] at h3
    obtain ⟨hb3, rfl, v2, hm3⟩ := h3
    have HB3 := Lib.hid (HX.out.trans hb3); have HM3 := Lib.hid hm3
    clear hb3 hm3
    have HBM := Lib.hid hbm
    clear hbm
    go_wp2
    refine jump_rt ?_
    go_ret
    exact StRet.good HB3.out HBM.out rfl HM3.out
end Go.Proofs.YtcomdkejpaoneaaDoor
end
section
namespace Go.Proofs.YtcomdkejpaoneaaDoor
open Go.RowKit
set_option maxRecDepth 100000
set_option maxHeartbeats 8000000
set_option linter.unusedSimpArgs false
set_option linter.unusedVariables false
theorem close_kept (w : World) (B mb : Nat) (v : Value) (m : Mc) (h : McAt w B mb v m) (hb : McB m) :
    Calls Tryd.prog 97 #[.pointer (some ⟨mb, 0, none⟩)] w fun e w' => e = .returned (.tuple #[]) ∧ Below B w w' ∧ McAt w' B mb v m.close ∧ ∀ g t cs, g ≠ mb → Blk w g t cs → Blk w' g t cs := by
  obtain ⟨⟨c0, c1, c2, c3, c4, c5⟩, ⟨f0, f1, f2, f3, f4, f5⟩, hlt⟩ := h.facts
  have H := Lib.hid h
  have hn1 := hb.nest; have hn2 := hb.most; have hn3 := hb.nots
  have hw1 : IntKind.i64.wrap ((m.at_.nots : Int) + (m.nest : Int)) = (m.at_.nots : Int) + (m.nest : Int) := IntWalk.i64_in _ (by omega)
  clear h hb
  go_enter Tryd.func97, Tryd.ntmps97
  go_wp2
  go_region
  have e : (if (m.at_.most : Int) < (m.at_.nots : Int) + (m.nest : Int) then (m.at_.nots : Int) + (m.nest : Int) else (m.at_.most : Int)) = ((max m.at_.most (m.at_.nots + m.nest) : Nat) : Int) := by
    split <;> omega
  generalize (if (m.at_.most : Int) < (m.at_.nots : Int) + (m.nest : Int) then (m.at_.nots : Int) + (m.nest : Int) else (m.at_.most : Int)) = z at *
  subst e
  go_wp2
  go_end0
  have h1 := H.out.set_ 2 (.int .i64 ((max m.at_.most (m.at_.nots + m.nest) : Nat) : Int)) ⟨m.state, m.nest, ⟨max m.at_.most (m.at_.nots + m.nest), m.at_.nots, m.at_.signed⟩, m.below⟩ (by rfl) rfl
  have h2 := h1.set_ 3 (.int .i64 0) ⟨m.state, m.nest, ⟨max m.at_.most (m.at_.nots + m.nest), 0, m.at_.signed⟩, m.below⟩ (by rfl) rfl
  have h3 := h2.set_ 1 (.int .i64 0) m.close (by rfl) rfl
  exact ⟨rfl, ((((Below.refl B w).setCell (p := ⟨mb, 2, none⟩) H.out.hm _).setCell (p := ⟨mb, 3, none⟩) H.out.hm _).setCell (p := ⟨mb, 1, none⟩) H.out.hm _).drew, h3.drew, fun g t cs hg hB => (((hB.far (p := ⟨mb, 2, none⟩) hg _).far (p := ⟨mb, 3, none⟩) hg _).far (p := ⟨mb, 1, none⟩) hg _).drew⟩
end Go.Proofs.YtcomdkejpaoneaaDoor
end
