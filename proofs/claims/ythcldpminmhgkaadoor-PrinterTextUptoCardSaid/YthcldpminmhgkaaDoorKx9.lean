/- Merged for a claim by shake.py: Ma Mb Mc Md -/
import Derived.Test.YthcldpminmhgkaaDoorKxA
import Derived.Deep.RegionLaw
import Derived.Test.YthcldpminmhgkaaDoorKx1
import Derived.Test.YthcldpminmhgkaaDoorKx2
import Derived.Test.YthcldpminmhgkaaDoorKx5
import Derived.Test.YthcldpminmhgkaaDoorKx8
set_option maxRecDepth 100000
set_option maxHeartbeats 8000000
set_option linter.unusedSimpArgs false
set_option linter.unusedVariables false
section
namespace Go.Proofs.YthcldpminmhgkaaDoor
open Go.RowKit
def ltS : Shape Lt := { tS := 67, tE := 74, size := 5, bytes := 48, enc := fun x => [.int .i64 x.kind, .string (str x.text), .int .i64 x.n, .int .i64 x.at_, .int .i64 x.end_], zero := .agg #[.int .i64 0, .string ⟨#[]⟩, .int .i64 0, .int .i64 0, .int .i64 0] }
theorem ltOk : ltS.Ok where
 under := Tryd.underlying67
 info := by kernel_rfl
 zs := rfl
 pos := by decide
 len := fun _ => rfl
 one := fun x u hu => by
  simp only [ltS, List.mem_cons, List.not_mem_nil, or_false] at hu
  rcases hu with rfl | rfl | rfl | rfl | rfl <;> rfl
 small := by decide
def levS : Shape Lev := { tS := 77, tE := 76, size := 3, bytes := 24, enc := fun x => [.int .i64 x.most, .int .i64 x.nots, .bool x.signed], zero := .agg #[.int .i64 0, .int .i64 0, .bool false] }
theorem levOk : levS.Ok where
 under := Tryd.underlying77
 info := by kernel_rfl
 zs := rfl
 pos := by decide
 len := fun _ => rfl
 one := fun x u hu => by
  simp only [levS, List.mem_cons, List.not_mem_nil, or_false] at hu
  rcases hu with rfl | rfl | rfl <;> rfl
 small := by decide
def ltVal (t : Lt) : Value := .agg #[.int .i64 t.kind, .string (str t.text), .int .i64 t.n, .int .i64 t.at_, .int .i64 t.end_]
def Lx.lt (x : Lx) : Lt := ⟨x.kind, x.text, x.n, (x.at_ : Int), (x.end_ : Int)⟩
theorem lt_cells (l : List Lx) : ltS.cells (l.map Lx.lt) = lexS.cells l := by
 induction l with
 | nil => rfl
 | cons x l ih =>
  have e1 : ltS.cells ((x :: l).map Lx.lt) = ltS.enc x.lt ++ ltS.cells (l.map Lx.lt) := rfl
  have e2 : lexS.cells (x :: l) = lexS.enc x ++ lexS.cells l := rfl
  rw [e1, e2, ih]; rfl
theorem OwnL.lt {w : World} {B : Nat} {v : Value} {l : List Lx} (h : OwnL lexS w B v l) : OwnL ltS w B v (l.map Lx.lt) := by
 unfold OwnL at h ⊢
 rw [lt_cells, List.length_map]; exact h
structure McAt (w : World) (B mb : Nat) (v : Value) (m : Mc) : Prop where
 blk : Blk w mb 79 #[.int .i64 (m.state : Int), .int .i64 (m.nest : Int), .int .i64 (m.at_.most : Int), .int .i64 (m.at_.nots : Int), .bool m.at_.signed, v]
 own : OwnL levS w B v m.below
 hB : B ≤ w.heap.size
 hm : B ≤ mb
section
variable {w w' : World} {B mb : Nat} {v : Value} {m : Mc}
theorem McAt.below (h : McAt w B mb v m) (hb : Below w.heap.size w w') : McAt w' B mb v m := ⟨h.blk.belowW hb, h.own.below hb, Nat.le_trans h.hB hb.size, h.hm⟩
theorem McAt.drew (h : McAt w B mb v m) : McAt w.drew B mb v m := h.below (Below.refl _ _).drew
theorem McAt.alloc (h : McAt w B mb v m) (o : Obj) : McAt (w.alloc o) B mb v m := h.below ((Below.refl _ _).alloc (Nat.le_refl _) _)
theorem McAt.set_ (h : McAt w B mb v m) (i : Nat) (u : Value) (m' : Mc)
  (hc : #[.int .i64 (m.state : Int), .int .i64 (m.nest : Int), .int .i64 (m.at_.most : Int), .int .i64 (m.at_.nots : Int), .bool m.at_.signed, v].setIfInBounds i u = #[.int .i64 (m'.state : Int), .int .i64 (m'.nest : Int), .int .i64 (m'.at_.most : Int), .int .i64 (m'.at_.nots : Int), .bool m'.at_.signed, v]) (hl : m'.below = m.below) : McAt (w.setCell ⟨mb, i, none⟩ u) B mb v m' := by
 refine ⟨hc ▸ h.blk.set_ i u, ?_, by rw [set_size]; exact h.hB, h.hm⟩
 rw [hl]
 exact h.own.farNe (h.own.offBlk h.blk (by decide)) _
theorem McAt.setState (h : McAt w B mb v m) (s : Nat) : McAt (w.setCell ⟨mb, 0, none⟩ (.int .i64 (s : Int))) B mb v (m.to s) := h.set_ 0 _ (m.to s) (by rfl) rfl
theorem McAt.facts (h : McAt w B mb v m) : (w.cell? ⟨mb, 0, none⟩ = some (.int .i64 (m.state : Int)) ∧ w.cell? ⟨mb, 1, none⟩ = some (.int .i64 (m.nest : Int)) ∧ w.cell? ⟨mb, 2, none⟩ = some (.int .i64 (m.at_.most : Int)) ∧ w.cell? ⟨mb, 3, none⟩ = some (.int .i64 (m.at_.nots : Int)) ∧ w.cell? ⟨mb, 4, none⟩ = some (.bool m.at_.signed) ∧ w.cell? ⟨mb, 5, none⟩ = some v) ∧
  (w.frozen? ⟨mb, 0, none⟩ = false ∧ w.frozen? ⟨mb, 1, none⟩ = false ∧ w.frozen? ⟨mb, 2, none⟩ = false ∧ w.frozen? ⟨mb, 3, none⟩ = false ∧ w.frozen? ⟨mb, 4, none⟩ = false ∧ w.frozen? ⟨mb, 5, none⟩ = false) ∧ mb < w.heap.size :=
 ⟨⟨h.blk.cell 0, h.blk.cell 1, h.blk.cell 2, h.blk.cell 3, h.blk.cell 4, h.blk.cell 5⟩, ⟨h.blk.frozen 0, h.blk.frozen 1, h.blk.frozen 2, h.blk.frozen 3, h.blk.frozen 4, h.blk.frozen 5⟩, h.blk.lt⟩
end
def StRet (B mb : Nat) (w : World) (r : Option Mc) (e : Ending) (w' : World) : Prop :=
 Below B w w' ∧ match r with
  | some m' => e = .returned (.bool true) ∧ ∃ v', McAt w' B mb v' m'
  | none => e = .returned (.bool false)
theorem StRet.good {B mb : Nat} {w w' : World} {r : Option Mc} {e : Ending} {m' : Mc} {v' : Value} (hb : Below B w w') (hr : r = some m') (he : e = .returned (.bool true)) (h : McAt w' B mb v' m') : StRet B mb w r e w' := by
 subst hr; exact ⟨hb, he, v', h⟩
theorem StRet.bad {B mb : Nat} {w w' : World} {r : Option Mc} {e : Ending} (hb : Below B w w') (hr : r = none) (he : e = .returned (.bool false)) : StRet B mb w r e w' := by
 subst hr; exact ⟨hb, he⟩
structure McB (m : Mc) : Prop where
 nest : m.nest ≤ 940000000000
 most : m.at_.most ≤ 940000000000
 nots : m.at_.nots ≤ 940000000000
 below : m.below.length ≤ 940000000000
theorem str_star (l : List UInt8) : ((str l).toList == [42]) = decide (l = [42]) := by
 rw [ba_toList]
 show (l == [42]) = _
 by_cases h : l = [42]
 ·subst h; rfl
 ·rw [decide_eq_false h]; simpa using h
theorem star_any (t : Lt) (w : World) :
  Calls Tryd.prog 87 #[ltVal t] w fun e w' => e = .returned (.bool (starT t)) ∧ Below w.heap.size w w' := by
 obtain ⟨k, tx, n, a, b⟩ := t
 have hst := str_star tx
 unfold starT ltVal
 simp only []
 by_cases hk : k = 2
 ·subst hk
  by_cases ht : tx = [42]
  ·rw [decide_eq_true ht] at hst
   rw [decide_eq_true (rfl : (2 : Int) = 2), decide_eq_true ht]
   clear ht
   generalize str tx = s at *
   go_enter Tryd.func87, Tryd.ntmps87
   go_wp2
   go_ret
   exact ⟨rfl, (Below.refl _ _).alloc (Nat.le_refl _) _⟩
  ·rw [decide_eq_false ht] at hst
   rw [decide_eq_true (rfl : (2 : Int) = 2), decide_eq_false ht]
   clear ht
   generalize str tx = s at *
   go_enter Tryd.func87, Tryd.ntmps87
   go_wp2
   go_ret
   exact ⟨rfl, (Below.refl _ _).alloc (Nat.le_refl _) _⟩
 ·rw [decide_eq_false hk]
  have e2 : (k == 2) = false := by simpa using hk
  clear hst
  go_enter Tryd.func87, Tryd.ntmps87
  go_wp2
  go_ret
  exact ⟨rfl, (Below.refl _ _).alloc (Nat.le_refl _) _⟩
theorem close_any (w : World) (B mb : Nat) (v : Value) (m : Mc) (h : McAt w B mb v m) (hb : McB m) :
  Calls Tryd.prog 98 #[.pointer (some ⟨mb, 0, none⟩)] w fun e w' => e = .returned (.tuple #[]) ∧ Below B w w' ∧ McAt w' B mb v m.close := by
 obtain ⟨⟨c0, c1, c2, c3, c4, c5⟩, ⟨f0, f1, f2, f3, f4, f5⟩, hlt⟩ := h.facts
 have H := LH h
 have hn1 := hb.nest; have hn2 := hb.most; have hn3 := hb.nots
 have hw1 : IntKind.i64.wrap ((m.at_.nots : Int) + (m.nest : Int)) = (m.at_.nots : Int) + (m.nest : Int) := IntWalk.i64_in _ (by omega)
 clear h hb
 go_enter Tryd.func98, Tryd.ntmps98
 go_wp2
 go_region
 have e : (if (m.at_.most : Int) < (m.at_.nots : Int) + (m.nest : Int) then (m.at_.nots : Int) + (m.nest : Int) else (m.at_.most : Int)) = ((max m.at_.most (m.at_.nots + m.nest) : Nat) : Int) := by
  split <;> omega
 generalize (if (m.at_.most : Int) < (m.at_.nots : Int) + (m.nest : Int) then (m.at_.nots : Int) + (m.nest : Int) else (m.at_.most : Int)) = z at *
 subst e
 go_wp2
 go_end0
 have h1 := H.out.set_ 2 (.int .i64 ((max m.at_.most (m.at_.nots + m.nest) : Nat) : Int)) ⟨m.state, m.nest, ⟨max m.at_.most (m.at_.nots + m.nest), m.at_.nots, m.at_.signed⟩, m.below⟩ (by rfl) rfl
 have h2 := h1.set_ 3 (.int .i64 0) ⟨m.state, m.nest, ⟨max m.at_.most (m.at_.nots + m.nest), 0, m.at_.signed⟩, m.below⟩ (by rfl) rfl
 have h3 := h2.set_ 1 (.int .i64 0) m.close (by rfl) rfl
 exact ⟨rfl, ((((Below.refl B w).setCell (p := ⟨mb, 2, none⟩) H.out.hm _).setCell (p := ⟨mb, 3, none⟩) H.out.hm _).setCell (p := ⟨mb, 1, none⟩) H.out.hm _).drew, h3.drew⟩
theorem side_any (t : Lt) (s : Nat) (w : World) (B mb : Nat) (v : Value) (m : Mc) (h : McAt w B mb v m) :
  Calls Tryd.prog 88 #[.pointer (some ⟨mb, 0, none⟩), ltVal t, .int .i64 (s : Int)] w (StRet B mb w (sideM m t s)) := by
 obtain ⟨k, tx, n, a, b⟩ := t
 have hstar := star_any ⟨k, tx, n, a, b⟩ (w.alloc (.cells #[.int .i64 k, .string (str tx), .int .i64 n, .int .i64 a, .int .i64 b] 74))
 have hA := h.alloc (.cells #[.int .i64 k, .string (str tx), .int .i64 n, .int .i64 a, .int .i64 b] 74)
 have hBA : Below w.heap.size w (w.alloc (.cells #[.int .i64 k, .string (str tx), .int .i64 n, .int .i64 a, .int .i64 b] 74)) := (Below.refl _ _).alloc (Nat.le_refl _) _
 have H := LH h; have HA := LH hA; have HBA := LH hBA
 have HST := LH hstar
 obtain ⟨-, ⟨f0, f1, f2, f3, f4, f5⟩, hlt⟩ := h.facts
 obtain ⟨⟨c0, c1, c2, c3, c4, c5⟩, -, -⟩ := h.facts
 have hS : sideT ⟨k, tx, n, a, b⟩ = (decide (k = 1) || decide (k = 3) || starT ⟨k, tx, n, a, b⟩) := rfl
 clear hA hBA hstar h
 unfold ltVal at *
 simp only [] at *
 by_cases h1 : k = 1
 ·have HR := LH (show sideM m ⟨k, tx, n, a, b⟩ s = some (m.to s) from by unfold sideM; rw [if_pos]; rw [hS]; simp [h1])
  have e1 : (k == 1) = true := by simpa using h1
  clear hS h1
  go_enter Tryd.func88, Tryd.ntmps88
  go_wp2
  go_ret
  exact StRet.good (((Below.refl B w).setCell (p := ⟨mb, 0, none⟩) H.out.hm _).alloc (by rw [set_size]; exact H.out.hB) _) HR.out rfl ((H.out.setState s).alloc _)
 ·have e1 : (k == 1) = false := by simpa using h1
  by_cases h3 : k = 3
  ·have HR := LH (show sideM m ⟨k, tx, n, a, b⟩ s = some (m.to s) from by unfold sideM; rw [if_pos]; rw [hS]; simp [h3])
   have e3 : (k == 3) = true := by simpa using h3
   clear hS h1 h3
   go_enter Tryd.func88, Tryd.ntmps88
   go_wp2
   go_ret
   exact StRet.good (((Below.refl B w).setCell (p := ⟨mb, 0, none⟩) H.out.hm _).alloc (by rw [set_size]; exact H.out.hB) _) HR.out rfl ((H.out.setState s).alloc _)
  ·have e3 : (k == 3) = false := by simpa using h3
   rw [decide_eq_false h1, decide_eq_false h3, Bool.false_or, Bool.false_or] at hS
   cases hst : starT ⟨k, tx, n, a, b⟩ with
   | true =>
    have HR := LH (show sideM m ⟨k, tx, n, a, b⟩ s = some (m.to s) from by unfold sideM; rw [if_pos (hS.trans hst)])
    have HV := LH hst
    clear hS h1 h3 hst
    go_enter Tryd.func88, Tryd.ntmps88
    go_wp2_with fail
    refine HST.out.mono ?_
    rintro e w2 ⟨rfl, hb2⟩
    rw [HV.out]
    have HA2 := LH (HA.out.below hb2)
    have HB2 := LH (HBA.out.trans (hb2.mono HBA.out.size))
    obtain ⟨-, ⟨g0, g1, g2, g3, g4, g5⟩, hlt2⟩ := HA2.out.facts
    obtain ⟨⟨d0, d1, d2, d3, d4, d5⟩, -, -⟩ := HA2.out.facts
    clear hb2
    go_wp2
    go_ret
    exact StRet.good ((HB2.out.mono H.out.hB).setCell (p := ⟨mb, 0, none⟩) H.out.hm _) HR.out rfl (HA2.out.setState s)
   | false =>
    have HR := LH (show sideM m ⟨k, tx, n, a, b⟩ s = none from by unfold sideM; rw [if_neg (by rw [hS, hst]; decide)])
    have HV := LH hst
    clear hS h1 h3 hst
    go_enter Tryd.func88, Tryd.ntmps88
    go_wp2_with fail
    refine HST.out.mono ?_
    rintro e w2 ⟨rfl, hb2⟩
    rw [HV.out]
    have HB2 := LH (HBA.out.trans (hb2.mono HBA.out.size))
    clear hb2
    go_wp2
    go_ret
    exact StRet.bad (HB2.out.mono H.out.hB) HR.out rfl
theorem levcell {w : World} {nb : Nat} {x : Lev} (h0 : w.cell? ⟨nb, 0, none⟩ = some (.int .i64 (x.most : Int))) (h1 : w.cell? ⟨nb, 1, none⟩ = some (.int .i64 (x.nots : Int))) (h2 : w.cell? ⟨nb, 2, none⟩ = some (.bool x.signed)) : ∀ j u, (levS.enc x)[j]? = some u → w.cell? ⟨nb, j, none⟩ = some u := by
 intro j u hj
 match j with
 | 0 => simp only [levS, List.getElem?_cons_zero] at hj; rw [← hj]; exact h0
 | 1 => simp only [levS, List.getElem?_cons_succ, List.getElem?_cons_zero] at hj; rw [← hj]; exact h1
 | 2 => simp only [levS, List.getElem?_cons_succ, List.getElem?_cons_zero] at hj; rw [← hj]; exact h2
 | j + 3 => simp [levS] at hj
theorem McAt.push {w w' : World} {B mb : Nat} {v v' : Value} {m : Mc} (h : McAt w B mb v m) (ho : OwnL levS w' B v' (m.below ++ [m.at_])) (hb : Below B w w') (hk : KeptBut w w' v) : McAt (w'.setCell ⟨mb, 5, none⟩ v') B mb v' ⟨m.state, m.nest, m.at_, m.below ++ [m.at_]⟩ := by
 have hbk := h.blk.keptL h.own (by decide) hk
 exact ⟨hbk.set_ 5 v', ho.farNe (ho.offBlk hbk (by decide)) _, by rw [set_size]; exact Nat.le_trans h.hB hb.size, h.hm⟩
theorem McAt.kept {w w' : World} {B mb : Nat} {v : Value} {m : Mc} (h : McAt w B mb v m) (hk : KeptBut w w' v) : w'.cell? ⟨mb, 5, none⟩ = some v ∧ w'.frozen? ⟨mb, 5, none⟩ = false ∧ w'.frozen? ⟨mb, 2, none⟩ = false ∧ w'.frozen? ⟨mb, 3, none⟩ = false ∧ w'.frozen? ⟨mb, 4, none⟩ = false ∧ w'.frozen? ⟨mb, 0, none⟩ = false ∧ w'.cell? ⟨mb, 2, none⟩ = some (.int .i64 (m.at_.most : Int)) ∧ w'.cell? ⟨mb, 3, none⟩ = some (.int .i64 (m.at_.nots : Int)) ∧ w'.cell? ⟨mb, 4, none⟩ = some (.bool m.at_.signed) ∧ w'.cell? ⟨mb, 0, none⟩ = some (.int .i64 (m.state : Int)) := by
 have hbk := h.blk.keptL h.own (by decide) hk
 exact ⟨hbk.cell 5, hbk.frozen 5, hbk.frozen 2, hbk.frozen 3, hbk.frozen 4, hbk.frozen 0, hbk.cell 2, hbk.cell 3, hbk.cell 4, hbk.cell 0⟩
theorem body_any (t : Lt) (w : World) (B mb : Nat) (v : Value) (m : Mc) (h : McAt w B mb v m) (hb : McB m) :
  Calls Tryd.prog 90 #[.pointer (some ⟨mb, 0, none⟩), ltVal t] w (StRet B mb w (bodyM m t)) := by
 obtain ⟨k, tx, n, a, b⟩ := t
 have hA := h.alloc (.cells #[.int .i64 k, .string (str tx), .int .i64 n, .int .i64 a, .int .i64 b] 74)
 have hBA : Below w.heap.size w (w.alloc (.cells #[.int .i64 k, .string (str tx), .int .i64 n, .int .i64 a, .int .i64 b] 74)) := (Below.refl _ _).alloc (Nat.le_refl _) _
 have H := LH h; have HA := LH hA; have HBA := LH hBA
 have HL := LH (show m.below.length + 1 ≤ 970000000000 by have := hb.below; omega)
 obtain ⟨-, ⟨f0, f1, f2, f3, f4, f5⟩, hlt⟩ := h.facts
 obtain ⟨⟨c0, c1, c2, c3, c4, c5⟩, -, -⟩ := h.facts
 clear hA hBA h hb
 unfold ltVal
 simp only []
 by_cases h1 : k = 1
 ·subst h1
  have HR := LH (show bodyM m ⟨1, tx, n, a, b⟩ = some (m.to 5) from by unfold bodyM; simp)
  go_enter Tryd.func90, Tryd.ntmps90
  go_wp2
  go_ret
  exact StRet.good (((Below.refl B w).setCell (p := ⟨mb, 0, none⟩) H.out.hm _).alloc (by rw [set_size]; exact H.out.hB) _) HR.out rfl ((H.out.setState 5).alloc _)
 by_cases h2 : k = 2
 ·subst h2
  have HR := LH (show bodyM m ⟨2, tx, n, a, b⟩ = some (m.to 9) from by unfold bodyM; simp)
  go_enter Tryd.func90, Tryd.ntmps90
  go_wp2
  go_ret
  exact StRet.good (((Below.refl B w).setCell (p := ⟨mb, 0, none⟩) H.out.hm _).alloc (by rw [set_size]; exact H.out.hB) _) HR.out rfl ((H.out.setState 9).alloc _)
 by_cases h3 : k = 3
 ·subst h3
  have HR := LH (show bodyM m ⟨3, tx, n, a, b⟩ = some (m.to 7) from by unfold bodyM; simp)
  go_enter Tryd.func90, Tryd.ntmps90
  go_wp2
  go_ret
  exact StRet.good (((Below.refl B w).setCell (p := ⟨mb, 0, none⟩) H.out.hm _).alloc (by rw [set_size]; exact H.out.hB) _) HR.out rfl ((H.out.setState 7).alloc _)
 by_cases h10 : k = 10
 ·subst h10
  have HR := LH (show bodyM m ⟨10, tx, n, a, b⟩ = some (m.to 10) from by unfold bodyM; simp)
  go_enter Tryd.func90, Tryd.ntmps90
  go_wp2
  go_ret
  exact StRet.good (((Below.refl B w).setCell (p := ⟨mb, 0, none⟩) H.out.hm _).alloc (by rw [set_size]; exact H.out.hB) _) HR.out rfl ((H.out.setState 10).alloc _)
 by_cases h12 : k = 12
 ·subst h12
  have HR := LH (show bodyM m ⟨12, tx, n, a, b⟩ = some (m.to 10) from by unfold bodyM; simp)
  go_enter Tryd.func90, Tryd.ntmps90
  go_wp2
  go_ret
  exact StRet.good (((Below.refl B w).setCell (p := ⟨mb, 0, none⟩) H.out.hm _).alloc (by rw [set_size]; exact H.out.hB) _) HR.out rfl ((H.out.setState 10).alloc _)
 by_cases h8 : k = 8
 ·subst h8
  have HR := LH (show bodyM m ⟨8, tx, n, a, b⟩ = some ⟨0, m.nest, lev0, m.below ++ [m.at_]⟩ from by unfold bodyM; simp)
  clear h1 h2 h3 h10 h12
  obtain ⟨A0, cap0, rfl, -, -⟩ := H.out.own.form
  have hBw := H.out.hB
  go_enter Tryd.func90, Tryd.ntmps90
  go_wp2
  go_region_law (first
   | ((with_reducible refine OwnL.stepAppendG levOk (B := B) (v := .slice A0 m.below.length cap0) (l := m.below) (McAt.own (B := B) (mb := mb) (v := .slice A0 m.below.length cap0) (m := m) (by (repeat (first | exact HA.out | with_reducible refine McAt.drew ?_ | with_reducible refine McAt.alloc ?_ _)); done)) m.at_ _ rfl _ _ rfl rfl rfl (by refine levcell ?_ ?_ ?_ <;> simp [World.cell?_alloc_new]) (McAt.hB (B := B) (mb := mb) (v := .slice A0 m.below.length cap0) (m := m) (by (repeat (first | exact HA.out | with_reducible refine McAt.drew ?_ | with_reducible refine McAt.alloc ?_ _)); done)) HL.out (fun g6 cp6 w6 q2 q3 q3k q4 q5 => ?_)); (have hM6 := McAt.push (B := B) (mb := mb) (v := .slice A0 m.below.length cap0) (m := m) (by (repeat (first | exact HA.out | with_reducible refine McAt.drew ?_ | with_reducible refine McAt.alloc ?_ _)); done) q2 q3 q3k); (have hK6 := McAt.kept (B := B) (mb := mb) (v := .slice A0 m.below.length cap0) (m := m) (by (repeat (first | exact HA.out | with_reducible refine McAt.drew ?_ | with_reducible refine McAt.alloc ?_ _)); done) q3k); (obtain ⟨m0, m1, m2, m3, m4, m5, m6, m7, m8, m9⟩ := hK6); clear q2 q3k q4))
  all_goals
   have HK6 := LH (Below.trans (B := B) (show Below B w _ from by (repeat (first | exact Below.refl _ _ | with_reducible refine Below.drew ?_ | with_reducible refine Below.alloc ?_ ?_ _)) <;> (first | exact hBw | (rw [World.size_alloc]; omega))) q3)
   have HM6 := LH hM6
   clear hM6 q3
   go_wp2
   go_ret
   have g1 := HM6.out.set_ 2 (.int .i64 0) ⟨m.state, m.nest, ⟨0, m.at_.nots, m.at_.signed⟩, m.below ++ [m.at_]⟩ (by rfl) rfl
   have g2 := g1.set_ 3 (.int .i64 0) ⟨m.state, m.nest, ⟨0, 0, m.at_.signed⟩, m.below ++ [m.at_]⟩ (by rfl) rfl
   have g3 := g2.set_ 4 (.bool false) ⟨m.state, m.nest, lev0, m.below ++ [m.at_]⟩ (by rfl) rfl
   have g4 := g3.set_ 0 (.int .i64 0) ⟨0, m.nest, lev0, m.below ++ [m.at_]⟩ (by rfl) rfl
   exact StRet.good (((((HK6.out.setCell (p := ⟨mb, 5, none⟩) HA.out.hm _).setCell (p := ⟨mb, 2, none⟩) HA.out.hm _).setCell (p := ⟨mb, 3, none⟩) HA.out.hm _).setCell (p := ⟨mb, 4, none⟩) HA.out.hm _).setCell (p := ⟨mb, 0, none⟩) HA.out.hm _) HR.out rfl g4
 ·have HR := LH (show bodyM m ⟨k, tx, n, a, b⟩ = none from by unfold bodyM; rw [if_neg h1, if_neg h2, if_neg h3, if_neg (show ¬ (k = 10 ∨ k = 12) by omega), if_neg h8])
  have e1 : (k == 1) = false := by simpa using h1
  have e2 : (k == 2) = false := by simpa using h2
  have e3 : (k == 3) = false := by simpa using h3
  have e8 : (k == 8) = false := by simpa using h8
  have e10 : (k == 10) = false := by simpa using h10
  have e12 : (k == 12) = false := by simpa using h12
  clear h1 h2 h3 h8 h10 h12
  go_enter Tryd.func90, Tryd.ntmps90
  go_wp2
  go_ret
  exact StRet.bad (HBA.out.mono H.out.hB) HR.out rfl
theorem close_below (m : Mc) : m.close.below = m.below := rfl
theorem McAt.pop {w : World} {B mb : Nat} {A : Option Addr} {n cap : Nat} {m : Mc} {l : List Lev} {x : Lev} (h : McAt w B mb (.slice A n cap) m) (hl : m.below = l ++ [x]) : McAt (w.setCell ⟨mb, 5, none⟩ (.slice A l.length cap)) B mb (.slice A l.length cap) ⟨m.state, m.nest, m.at_, l⟩ := by
 have ho := h.own
 rw [hl] at ho
 have hp := ho.pop levOk
 exact ⟨h.blk.set_ 5 _, hp.farNe (hp.offBlk h.blk (by decide)) _, by rw [set_size]; exact h.hB, h.hm⟩
theorem shut_any (w : World) (B mb : Nat) (v : Value) (m : Mc) (h : McAt w B mb v m) (hb : McB m) :
  Calls Tryd.prog 99 #[.pointer (some ⟨mb, 0, none⟩)] w (StRet B mb w (shutM m)) := by
 have hcl := close_any w B mb v m h hb
 have H := LH h; have HB := LH hb; have HCL := LH hcl
 obtain ⟨A, cap, hv, hc1, hc2⟩ := h.own.form
 obtain ⟨-, ⟨f0, f1, f2, f3, f4, f5⟩, hlt⟩ := h.facts
 obtain ⟨⟨c0, c1, c2, c3, c4, c5⟩, -, -⟩ := h.facts
 clear h hb hcl
 rcases List.eq_nil_or_concat m.below with hbl | ⟨l, x, hbl⟩
 ·have HR := LH (show shutM m = none from by unfold shutM; rw [hbl]; rfl)
  have hl : (m.below.length : Int) = 0 := by rw [hbl]; rfl
  have hl2 : ((m.below.length : Int) == 0) = true := by rw [hl]; rfl
  subst hv
  clear hbl
  go_enter Tryd.func99, Tryd.ntmps99
  go_wp2
  go_ret
  exact StRet.bad (Below.refl _ _) HR.out rfl
 ·rw [List.concat_eq_append] at hbl
  have HR := LH (show shutM m = some ⟨8, max m.at_.most (m.at_.nots + m.nest) + 1, x, l⟩ from by unfold shutM; rw [hbl, List.getLast?_concat, List.dropLast_concat])
  have hlen : m.below.length = l.length + 1 := by rw [hbl]; simp
  rw [hlen] at hv hc1
  have hn := HB.out.below
  rw [hlen] at hn
  subst hv
  have HBL := LH hbl
  clear hbl hlen
  have hl2 : ((((l.length + 1 : Nat) : Int)) == 0) = false := by simp; omega
  go_enter Tryd.func99, Tryd.ntmps99
  go_wp2_with fail
  refine HCL.out.mono ?_
  rintro e w1 ⟨rfl, hb1, hm1⟩
  have HB1 := LH hb1; have HM1 := LH hm1
  have hb2 := HB.out.most; have hb3 := HB.out.nots; have hb4 := HB.out.nest
  have hmx : m.close.at_.most = max m.at_.most (m.at_.nots + m.nest) := rfl
  obtain ⟨-, ⟨q0, q1, q2, q3, q4, q5⟩, hlt2⟩ := hm1.facts
  obtain ⟨⟨d0, d1, d2, d3, d4, d5⟩, -, -⟩ := hm1.facts
  rw [hmx] at d2
  obtain ⟨mx, hmx2⟩ : ∃ mx, mx = max m.at_.most (m.at_.nots + m.nest) := ⟨_, rfl⟩
  rw [← hmx2] at d2
  have hmb : mx ≤ 1880000000000 := by omega
  have HMX := LH hmx2
  have hown := hm1.own
  rw [close_below, HBL.out] at hown
  obtain ⟨g, hg, hcell⟩ := OwnL.at_ hown levOk (k := l.length) (by simp)
  subst hg
  have hx : (l ++ [x])[l.length]'(by simp) = x := by simp
  rw [hx] at hcell
  have k0 := hcell 0 _ (by decide) rfl
  have k1 := hcell 1 _ (by decide) rfl
  have k2 := hcell 2 _ (by decide) rfl
  have HOW := LH hown
  have hgm : g ≠ mb := hown.offBlk hm1.blk (by decide) g rfl
  have hgm2 : ¬ g = mb := hgm
  have hgm3 : ¬ mb = g := fun e => hgm e.symm
  clear hb1 hm1 hmx hmx2 hcell hx hown hgm
  simp only [Nat.add_zero, levS] at k0 k1 k2
  go_wp2
  go_region
  go_wp2
  go_region
  go_wp2
  go_ret
  have g1 := HM1.out.set_ 1 (.int .i64 ((mx : Int) + 1)) ⟨m.state, mx + 1, ⟨max m.at_.most (m.at_.nots + m.nest), 0, m.at_.signed⟩, m.below⟩ (by show _ = #[_, Value.int .i64 ((mx + 1 : Nat) : Int), _, _, _, _]; rw [show ((mx + 1 : Nat) : Int) = (mx : Int) + 1 from rfl]; rfl) rfl
  have g2 := g1.set_ 2 (.int .i64 (x.most : Int)) ⟨m.state, mx + 1, ⟨x.most, 0, m.at_.signed⟩, m.below⟩ (by rfl) rfl
  have g3 := g2.set_ 3 (.int .i64 (x.nots : Int)) ⟨m.state, mx + 1, ⟨x.most, x.nots, m.at_.signed⟩, m.below⟩ (by rfl) rfl
  have g4 := g3.set_ 4 (.bool x.signed) ⟨m.state, mx + 1, x, m.below⟩ (by rfl) rfl
  have g5 := g4.pop HBL.out
  have g6 := g5.set_ 0 (.int .i64 8) ⟨8, mx + 1, x, l⟩ (by rfl) rfl
  have hm := HM1.out.hm
  rw [← HMX.out] at HR
  exact StRet.good (((((((HB1.out.setCell (p := ⟨mb, 1, none⟩) hm _).setCell (p := ⟨mb, 2, none⟩) hm _).setCell (p := ⟨mb, 3, none⟩) hm _).setCell (p := ⟨mb, 4, none⟩) hm _).setCell (p := ⟨mb, 5, none⟩) hm _).setCell (p := ⟨mb, 0, none⟩) hm _).drew.drew) HR.out rfl g6.drew.drew
end Go.Proofs.YthcldpminmhgkaaDoor
end
