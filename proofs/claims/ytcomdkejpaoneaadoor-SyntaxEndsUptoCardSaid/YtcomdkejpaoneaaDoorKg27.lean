/- Merged for a claim by shake.py: Hm Hn Ho Hp Uc Ud -/
import Derived.Test.YtcomdkejpaoneaaDoorKg17
import Derived.Test.YtcomdkejpaoneaaDoorKg26
section
namespace Go.Proofs.YtcomdkejpaoneaaDoor
open Go.RowKit
set_option maxRecDepth 100000
set_option maxHeartbeats 1000000
set_option linter.unusedSimpArgs false
set_option linter.unusedVariables false
theorem OwnL.keptNq {α : Type} {S : Shape α} {w w' : World} {B : Nat} {v u : Value} {l : List α} (h : OwnL S w B v l) (hk : KeptBut w w' u) (hne : ∀ g, v.ownBlock = some g → u.ownBlock ≠ some g) : OwnL S w' B v l := by
  refine ⟨h.1, ?_⟩
  rcases h.2 with h2 | ⟨g, cap, cur, hv, hg, hh, r⟩
  · exact Or.inl h2
  · refine Or.inr ⟨g, cap, cur, hv, hg, ?_, r⟩
    have hlt : g < w.heap.size := by
      rcases Nat.lt_or_ge g w.heap.size with h | h
      · exact h
      · rw [Array.getElem?_eq_none h] at hh; cases hh
    rw [hk g hlt (hne g (by rw [hv]; rfl))]; exact hh
def updF {α : Type} (f : Nat → α) (p : Nat) (x : α) : Nat → α := fun q => if q = p then x else f q
theorem updF_same {α : Type} (f : Nat → α) (p : Nat) (x : α) : updF f p x p = x := by unfold updF; rw [if_pos rfl]
theorem updF_ne {α : Type} {f : Nat → α} {p q : Nat} {x : α} (h : q ≠ p) : updF f p x q = f q := by unfold updF; rw [if_neg h]
theorem chCells_set (A : Option Addr) (cap m : Nat) (v : Nat → Value) (p : Nat) (x : Value) (hp : p < 11) : (chCells A cap m v).setIfInBounds (1 + p) x = chCells A cap m (updF v p x) := by
  have : p = 0 ∨ p = 1 ∨ p = 2 ∨ p = 3 ∨ p = 4 ∨ p = 5 ∨ p = 6 ∨ p = 7 ∨ p = 8 ∨ p = 9 ∨ p = 10 := by omega
  rcases this with rfl | rfl | rfl | rfl | rfl | rfl | rfl | rfl | rfl | rfl | rfl <;> rfl
def Uq (v : Nat → Value) : Prop := ∀ q p, q < 11 → p < 11 → q ≠ p → ∀ g, (v q).ownBlock = some g → (v p).ownBlock ≠ some g
theorem TbAt.push {w w3 : World} {cb n cap m p : Nat} {A : Option Addr} {v : Nat → Value} {L : Nat → List Sl} {v' : Value} (h : TbAt w cb n A cap m v L) (hu : Uq v) (hp : p < 11)
    (h1 : OwnL gS w3 (cb + 1) v' (L p ++ [⟨some ⟨w.heap.size, 0, none⟩, n + 1, n + 1⟩])) (h2 : Below (cb + 1) (w.alloc (.cells (zeros (n + 1)) 3)) w3) (h3 : KeptBut (w.alloc (.cells (zeros (n + 1)) 3)) w3 (v p))
    (h4 : ∀ g, v'.ownBlock = some g → (v p).ownBlock = some g ∨ (w.alloc (.cells (zeros (n + 1)) 3)).heap.size ≤ g) :
    TbAt (w3.setCell ⟨cb, 1 + p, none⟩ v') cb n A cap m (updF v p v') (updF L p (L p ++ [⟨some ⟨w.heap.size, 0, none⟩, n + 1, n + 1⟩])) ∧ Uq (updF v p v') := by
  have hsz : (w.alloc (.cells (zeros (n + 1)) 3)).heap.size = w.heap.size + 1 := World.size_alloc _ _
  have hcb := h.blk.lt
  have hlt : ∀ q g, q < 11 → (v q).ownBlock = some g → cb + 1 ≤ g ∧ g < w.heap.size := fun q g hq hg => World.ownsRow.lt (h.own q hq) g hg
  have hv'1 : ∀ g, v'.ownBlock = some g → cb + 1 ≤ g := fun g hg => (World.ownsRow.lt h1 g hg).1
  -- rows' blocks stay
  have hkeep : ∀ g, g < w.heap.size → cb < g → (v p).ownBlock ≠ some g → ∀ cs, Blk w g 3 cs → Blk (w3.setCell ⟨cb, 1 + p, none⟩ v') g 3 cs := by
    intro g hg hc hn cs hb
    have hb1 := hb.alloc (.cells (zeros (n + 1)) 3)
    have hb2 : Blk w3 g 3 cs := by
      unfold Blk at hb1 ⊢
      rw [h3 g (by rw [hsz]; omega) hn]; exact hb1
    exact hb2.far (p := ⟨cb, 1 + p, none⟩) (by show g ≠ cb; omega) _
  have hnew : Blk (w3.setCell ⟨cb, 1 + p, none⟩ v') w.heap.size 3 (zeros (n + 1)) := by
    have hb1 := Blk.new w 3 (zeros (n + 1))
    have hb2 : Blk w3 w.heap.size 3 (zeros (n + 1)) := by
      unfold Blk at hb1 ⊢
      rw [h3 w.heap.size (by rw [hsz]; omega) (fun e => by have := (hlt p _ hp e).2; omega)]; exact hb1
    exact hb2.far (p := ⟨cb, 1 + p, none⟩) (by show w.heap.size ≠ cb; omega) _
  have hno : ∀ g, g < w.heap.size + 1 → (∀ q, q < 11 → (v q).ownBlock ≠ some g) → ∀ q, q < 11 → (updF v p v' q).ownBlock ≠ some g := by
    intro g hg hn q hq
    by_cases hqp : q = p
    · subst hqp
      rw [updF_same]
      intro e
      rcases h4 g e with h5 | h5
      · exact hn q hq h5
      · rw [hsz] at h5; omega
    · rw [updF_ne hqp]; exact hn q hq
  have hfresh : ∀ q, q < 11 → (v q).ownBlock ≠ some w.heap.size := fun q hq e => by have := (hlt q _ hq e).2; omega
  -- a row of the new tables
  have hrow : ∀ (q a : Nat) (s : Sl), q < 11 → (updF L p (L p ++ [⟨some ⟨w.heap.size, 0, none⟩, n + 1, n + 1⟩]) q)[a]? = some s → (L q)[a]? = some s ∨ (q = p ∧ a = (L p).length ∧ s = ⟨some ⟨w.heap.size, 0, none⟩, n + 1, n + 1⟩) := by
    intro q a s hq hs
    by_cases hqp : q = p
    · subst hqp
      rw [updF_same] at hs
      by_cases ha : a < (L q).length
      · rw [List.getElem?_append_left ha] at hs; exact .inl hs
      · rw [List.getElem?_append_right (by omega)] at hs
        have ha2 : a - (L q).length = 0 := by
          have := (List.getElem?_eq_some_iff.1 hs).1
          simp at this; omega
        rw [ha2] at hs
        injection hs with hs
        exact .inr ⟨rfl, by omega, hs.symm⟩
    · rw [updF_ne hqp] at hs; exact .inl hs
  have hold : ∀ (q a : Nat) (s : Sl), q < 11 → (L q)[a]? = some s → s.a ≠ some ⟨w.heap.size, 0, none⟩ := by
    intro q a s hq hs e
    obtain ⟨g, rfl, _, hb, _⟩ := h.rows q a s hq hs
    have := hb.lt
    injection e with e
    injection e with e
    omega
  refine ⟨⟨?_, ?_, ?_, ?_⟩, ?_⟩
  · rw [← chCells_set A cap m v p v' hp]
    exact ((h.blk.alloc (.cells (zeros (n + 1)) 3)).below h2 (Nat.lt_succ_self _)).set_ (1 + p) v'
  · intro q hq
    by_cases hqp : q = p
    · subst hqp
      rw [updF_same, updF_same]
      exact h1.far (p := ⟨cb, 1 + q, none⟩) (Nat.lt_succ_self _) _
    · rw [updF_ne hqp, updF_ne hqp]
      exact (((h.own q hq).alloc _).keptNq h3 (hu q p hq hp hqp)).far (p := ⟨cb, 1 + p, none⟩) (Nat.lt_succ_self _) _
  · intro q a s hq hs
    rcases hrow q a s hq hs with hs | ⟨_, _, rfl⟩
    · obtain ⟨g, e, hc, hb, hn⟩ := h.rows q a s hq hs
      exact ⟨g, e, hc, hkeep g hb.lt hc (hn p hp) _ hb, hno g (by have := hb.lt; omega) hn⟩
    · exact ⟨w.heap.size, rfl, hcb, hnew, hno _ (Nat.lt_succ_self _) hfresh⟩
  · intro q a s r b t hq hr hs ht hne
    rcases hrow q a s hq hs with hs1 | ⟨rfl, rfl, rfl⟩
    · rcases hrow r b t hr ht with ht1 | ⟨rfl, rfl, rfl⟩
      · exact h.dist q a s r b t hq hr hs1 ht1 hne
      · exact hold q a s hq hs1
    · rcases hrow r b t hr ht with ht1 | ⟨rfl, rfl, rfl⟩
      · exact fun e => hold r b t hr ht1 e.symm
      · omega
  · intro q r hq hr hne g hg
    by_cases hqp : q = p
    · subst hqp
      rw [updF_same] at hg
      rw [updF_ne (fun e => hne e.symm)]
      rcases h4 g hg with h5 | h5
      · exact hu q r hq hr hne g h5
      · intro e
        have := (hlt r g hr e).2
        rw [hsz] at h5; omega
    · rw [updF_ne hqp] at hg
      by_cases hrp : r = p
      · subst hrp
        rw [updF_same]
        intro e
        rcases h4 g e with h5 | h5
        · exact hu r q hr hq (fun e => hne e.symm) g h5 hg
        · have := (hlt q g hq hg).2
          rw [hsz] at h5; omega
      · rw [updF_ne hrp]; exact hu q r hq hr hne g hg
end Go.Proofs.YtcomdkejpaoneaaDoor
end
section
namespace Go.Proofs.YtcomdkejpaoneaaDoor
open Go.RowKit
set_option maxRecDepth 100000
set_option maxHeartbeats 1000000
set_option linter.unusedSimpArgs false
set_option linter.unusedVariables false
theorem mkInts (n : Nat) (hn : n ≤ 1000) (w : World) : (Instr.makeSlice 33 (.int .i64 ((n : Int) + 1)) (.int .i64 ((n : Int) + 1))).run Tryd.prog w = .ok (.slice (some ⟨w.heap.size, 0, none⟩) (n + 1) (n + 1)) (w.alloc (.cells (zeros (n + 1)) 3)) := by
  obtain ⟨i0, hi, hz0, hz1, hz2⟩ := info_parts folOk.info
  have hz1' : i0.size = 1 := hz1
  have hz2' : i0.bytes = 8 := hz2
  have hb : (i0.bytes : Int) * ((n : Int) + 1) ≤ 281474976710656 := by rw [hz2']; omega
  have h := run_make (P := Tryd.prog) w 33 3 i0 (.int .i64 0) Tryd.underlying33 hi hz0 .i64 .i64 ((n : Int) + 1) ((n : Int) + 1) (by omega) (by omega) hb (by omega)
  rw [h, hz1']
  have e1 : ((n : Int) + 1).toNat = n + 1 := by omega
  rw [e1, Nat.mul_one]
  have e : madeCells (Value.int .i64 0).cells (n + 1) = zeros (n + 1) := by
    have h2 : madeCells (Value.int .i64 0).cells (n + 1) = (List.replicate (n + 1) (Value.int .i64 0)).toArray := by
      rw [← toList_madeCells_one]; rfl
    rw [h2]
    unfold zeros
    simp
  rw [e]
end Go.Proofs.YtcomdkejpaoneaaDoor
end
section
namespace Go.Proofs.YtcomdkejpaoneaaDoor
open Go.RowKit
set_option maxRecDepth 1000000
set_option maxHeartbeats 2000000
set_option linter.unusedSimpArgs false
set_option linter.unusedVariables false
theorem bodyPost_mono {fn : Func} {R R' : Ending → World → Prop} (h : ∀ e w, R e w → R' e w) : ∀ e a w, bodyPost Tryd.prog fn R e a w → bodyPost Tryd.prog fn R' e a w
  | .normal, _, _, ⟨h1, v, h2, h3⟩ => ⟨h1, v, h2, h _ _ h3⟩
  | .ret, _, _, ⟨h1, v, h2, h3⟩ => ⟨h1, v, h2, h _ _ h3⟩
  | .panic _, _, _, ⟨h1, h2⟩ => ⟨h1, h _ _ h2⟩
  | .outgrown, _, _, h1 => h _ _ h1
  | .exit _, _, _, h1 => h1
  | .goto _, _, _, h1 => h1
theorem derived_make {w : World} {B cb n cap : Nat} {A : Option Addr} {row : List Lt} (ht0 : TbAt w cb n A cap row.length (fun _ => .slice none 0 0) (fun _ => [])) (hr : RdL ltS w B (.slice A row.length cap) row) (hB : B ≤ cb) (hsm : row.length ≤ 100) (hlen : row.length = n + 1) (hn1 : 1 ≤ n) (c1 c5 c6 c7 c8 c9 c10 c11 c12 c13 c14 c15 c16 c17 c18 c19 c20 c21 c22 c23 c24 c25 c26 c27 c28 c29 c30 c31 c32 c33 c34 c35 c36 c37 c38 c39 c40 c41 c42 c43 c44 c45 c46 c47 c48 c49 c50 c51 c52 c53 c54 c55 c56 c57 c58 c59 c60 c61 c62 c63 c64 c65 c66 c67 c68 c69 c70 c71 c72 c73 c74 c75 c76 c77 : Value) :
    Code.wp Tryd.prog (tlD 5) (bodyPost Tryd.prog Tryd.f22 (fun e w' => ∃ x : Nat, e = .returned (.int .i64 (x : Int)) ∧ IsW .list (pc row 0 n) x ∧ Below cb w w')) ⟨#[.slice A row.length cap, c1, .int .i64 0, .int .i64 (n : Int), .pointer (some ⟨cb, 0, none⟩), c5, c6, c7, c8, c9, c10, c11, c12, c13, c14, c15, c16, c17, c18, c19, c20, c21, c22, c23, c24, c25, c26, c27, c28, c29, c30, c31, c32, c33, c34, c35, c36, c37, c38, c39, c40, c41, c42, c43, c44, c45, c46, c47, c48, c49, c50, c51, c52, c53, c54, c55, c56, c57, c58, c59, c60, c61, c62, c63, c64, c65, c66, c67, c68, c69, c70, c71, c72, c73, c74, c75, c76, c77], []⟩ w := by
  have hn : n ≤ 100 := by omega
  have HT := Lib.hid ht0; have HR := Lib.hid hr; have HLN := Lib.hid hlen
  have hmk := mkInts n (by omega)
  have hwn : IntKind.i64.wrap ((n : Int) + 1) = (n : Int) + 1 := IntWalk.i64_in _ (by omega)
  clear ht0 hr hlen
  conv => arg 2; whnf
  go_wp2
  go_loopw [5] (fun pv wr => ∃ (p : Nat) (v : Nat → Value) (L : Nat → List Sl), p ≤ 11 ∧ pv = .int .i64 (p : Int) ∧ (∀ q, q < 11 → (L q).length = if q < p then n + 1 else 0) ∧ TbAt wr cb n A cap row.length v L ∧ Uq v ∧ Below cb w wr) (fun pv _ => 11 - (intOf pv).toNat)
  case atStart => exact ⟨0, _, _, Nat.zero_le _, rfl, fun q hq => by rw [if_neg (Nat.not_lt_zero _)]; rfl, HT.out, (fun q r _ _ _ g h => by exact absurd h (by simp [Value.ownBlock])), Below.refl _ _⟩
  case round =>
    clear HT
    obtain ⟨p, v0, L0, hp, rfl, hL0, ht0, hu0, hb0⟩ := hrel
    have HL0 := Lib.hid hL0; have HT0 := Lib.hid ht0; have HU0 := Lib.hid hu0; have HB0 := Lib.hid hb0
    clear hL0 ht0 hu0 hb0
    by_cases hpl : p < 11
    · have hpi : (p : Int) < 11 := by omega
      obtain ⟨wo, rfl⟩ : ∃ wo : World, wo = wr := ⟨_, rfl⟩
      go_wp2
      go_loopw [6] (fun iv wr => ∃ (i : Nat) (v : Nat → Value) (L : Nat → List Sl), i ≤ n + 1 ∧ iv = .int .i64 (i : Int) ∧ (∀ q, q < 11 → (L q).length = if q < p then n + 1 else if q = p then i else 0) ∧ TbAt wr cb n A cap row.length v L ∧ Uq v ∧ Below cb w wr) (fun iv _ => n + 1 - (intOf iv).toNat)
      case atStart => exact ⟨0, _, _, Nat.zero_le _, rfl, fun q hq => by rw [HL0.out q hq]; split <;> simp, HT0.out, HU0.out, HB0.out⟩
      case round =>
        clear HL0 HT0 HU0 HB0
        obtain ⟨i, v, L, hi, rfl, hL, ht, hu, hb⟩ := hrel
        have HL := Lib.hid hL; have HT := Lib.hid ht; have HU := Lib.hid hu; have HB := Lib.hid hb
        by_cases hin : i ≤ n
        · have hini : (i : Int) ≤ (n : Int) := by omega
          have hlp : (L p).length = i := by rw [hL p hpl, if_neg (Nat.lt_irrefl _), if_pos rfl]
          obtain ⟨Ap, cp, hvp, -, -⟩ := (ht.own p hpl).form
          rw [hlp] at hvp
          have c0 : wr.cell? ⟨cb, 1 + p, none⟩ = some (.slice Ap i cp) := by rw [ht.blk.cell, chCells_at A cap row.length v p hpl, hvp]
          have f0 := ht.blk.frozen (1 + p)
          have hcb := ht.blk.lt
          have HOW := Lib.hid (show OwnL gS wr (cb + 1) (.slice Ap i cp) (L p) from by rw [← hvp]; exact ht.own p hpl)
          have HNB := Lib.hid (show ((wr.drew.alloc (.cells (zeros (n + 1)) 3)).alloc (.cells #[.slice (some ⟨wr.heap.size, 0, none⟩) (n + 1) (n + 1)] 33)).cell? ⟨wr.heap.size + 1, 0, none⟩ = some (.slice (some ⟨wr.heap.size, 0, none⟩) (n + 1) (n + 1)) from by
            have h := Blk.new (wr.drew.alloc (.cells (zeros (n + 1)) 3)) 33 #[.slice (some ⟨wr.heap.size, 0, none⟩) (n + 1) (n + 1)]
            rw [World.size_alloc] at h
            exact h.cell 0)
          have HVP := Lib.hid hvp; have HLP := Lib.hid hlp
          clear hL ht hu hb hvp hlp
          go_wp2_with fail
          go_region_law (first
            | (refine OwnL.stepAppendG gOk (((HOW.out.drew).alloc (.cells (zeros (n + 1)) 3)).alloc (.cells #[.slice (some ⟨wr.heap.size, 0, none⟩) (n + 1) (n + 1)] 33)) ⟨some ⟨wr.heap.size, 0, none⟩, n + 1, n + 1⟩ _ rfl _ _ rfl rfl rfl (fun j u hj => by cases j with | zero => (injection hj with hj; subst hj; exact HNB.out) | succ j => simp [gS] at hj) (by rw [World.size_alloc, World.size_alloc]; show cb + 1 ≤ wr.heap.size + 1 + 1; omega) (by rw [HLP.out]; omega) (fun g5 d5 w5 ho5 hb5 hk5 hg5 hlt5 => ?_); (have hbk := ((HT.out.blk.drew.alloc (.cells (zeros (n + 1)) 3)).alloc (.cells #[.slice (some ⟨wr.heap.size, 0, none⟩) (n + 1) (n + 1)] 33)).below hb5 (Nat.lt_succ_self _)); (have c5 := hbk.cell (1 + p)); (rw [chCells_at A cap row.length v p hpl, HVP.out] at c5); (have f5 := hbk.frozen (1 + p)); (have l5 := hbk.lt); clear hbk))
          all_goals
            have hz1 : (wr.drew.alloc (.cells (zeros (n + 1)) 3)).heap.size = wr.heap.size + 1 := World.size_alloc _ _
            have hB1 : Below (cb + 1) (wr.drew.alloc (.cells (zeros (n + 1)) 3)) w5 := ((Below.refl _ _).alloc (by rw [hz1]; omega) _).trans hb5
            have hK1 : KeptBut (wr.drew.alloc (.cells (zeros (n + 1)) 3)) w5 (.slice Ap i cp) := fun b hb hn => (hk5 b (by rw [World.size_alloc]; omega) hn).trans (Below.heap_alloc _ _ b hb)
            obtain ⟨hpush, hun⟩ := (show TbAt wr.drew cb n A cap row.length v L from ⟨HT.out.blk, HT.out.own, HT.out.rows, HT.out.dist⟩).push HU.out hpl ho5 hB1 (by rw [HVP.out]; exact hK1) (fun g hg => by
              rw [HVP.out]
              rcases hg5 with h | h
              · exact .inl (by rw [h]; exact hg)
              · refine .inr ?_
                have : g5 = g := by injection hg
                rw [← this, h]; simp only [World.size_alloc] <;> omega)
            have HP := Lib.hid hpush; have HUN := Lib.hid hun
            have HLN2 := Lib.hid (show ∀ q, q < 11 → (updF L p (L p ++ [⟨some ⟨wr.drew.heap.size, 0, none⟩, n + 1, n + 1⟩]) q).length = if q < p then n + 1 else if q = p then i + 1 else 0 from fun q hq => by
              by_cases h2 : q = p
              · subst h2
                rw [updF_same, if_neg (Nat.lt_irrefl _), if_pos rfl, List.length_append, HLP.out]; rfl
              · rw [updF_ne h2, HL.out q hq, if_neg h2, if_neg h2])
            have HB5 := Lib.hid (show Below cb w (w5.setCell ⟨cb, 1 + p, none⟩ (.slice (some ⟨g5, 0, none⟩) ((L p).length + 1) d5)) from ((HB.out.drew.alloc (by have := HB.out.size; exact Nat.le_of_lt hcb) _).trans (hB1.mono (Nat.le_succ _))).setCell (p := ⟨cb, 1 + p, none⟩) (Nat.le_refl _) _)
            clear ho5 hb5 hk5 hg5 hpush hun hB1 hK1 hz1 c5 f5
            go_wp2
            go_roundw
            case rel => exact ⟨i + 1, _, _, by omega, by go_num, HLN2.out, HP.out, HUN.out, HB5.out⟩
            case measure => simp [intOf]; omega
        · have hini : ¬ ((i : Int) ≤ (n : Int)) := by omega
          have hie : i = n + 1 := by omega
          have HL2 := Lib.hid (show ∀ q, q < 11 → (L q).length = if q < p + 1 then n + 1 else 0 from fun q hq => by
            rw [HL.out q hq]
            by_cases h1 : q < p
            · rw [if_pos h1, if_pos (by omega)]
            · rw [if_neg h1]
              by_cases h2 : q = p
              · rw [if_pos h2, if_pos (by omega), hie]
              · rw [if_neg h2, if_neg (by omega)])
          clear hL ht hu hb hie
          go_wp2
          go_roundw
          case rel => exact ⟨p + 1, v, L, hpl, by go_num, HL2.out, HT.out, HU.out, HB.out⟩
          case measure => simp [intOf]; omega
    · have hpi : ¬ ((p : Int) < 11) := by omega
      have hpe : p = 11 := by omega
      have HCH := Lib.hid (HT0.out.chart (HR.out.below (HB0.out.mono hB)) hB hsm HLN.out (fun q hq => by rw [HL0.out q hq, if_pos (by omega)]))
      have HB0B := HB0.out
      clear HL0 HT0 HU0 HB0
      go_upto_if 26 with fail
      go_step
      go_step
      go_step
      go_step
      go_step
      go_step
      exact Code.wp_mono (fun e a w' q => bodyPost_mono (fun e w' ⟨x, h1, h2, h3⟩ => ⟨x, h1, h2, HB0B.trans h3⟩) e a w' q) (derived_tail HCH.out (fun _ _ _ => Nat.zero_le _) hn1 _ _ _ _ _ _ _ _ _ _ _ _ _ _ _ _ _ _ _ _ _ _ _ _ _ _ _ _ _ _ _ _ _ _ _ _ _ _ _ _ _ _ _ _ _ _ _ _ _ _ _ _ _ _ _ _ _ _ _ _ _ _ _ _ _ _ _ _ _ _ _ _ _ _)
end Go.Proofs.YtcomdkejpaoneaaDoor
end
section
namespace Go.Proofs.YtcomdkejpaoneaaDoor
open Go.RowKit
set_option maxRecDepth 1000000
set_option maxHeartbeats 2000000
set_option linter.unusedSimpArgs false
set_option linter.unusedVariables false
theorem TbAt.first (w : World) (A : Option Addr) (n cap m : Nat) : TbAt (w.alloc (.cells (chCells A cap m (fun _ => .slice none 0 0)) 89)) w.heap.size n A cap m (fun _ => .slice none 0 0) (fun _ => []) where
  blk := Blk.new w _ _
  own := fun q _ => OwnL.nil gS _ _
  rows := fun q a s _ hs => by simp at hs
  dist := fun q a s p b t _ _ hs _ _ => by simp at hs
def DvN (row : List Lt) (x : Nat) : Prop := if 2 ≤ row.length ∧ kd row (row.length - 1) = 0 then IsW .list (pc row 0 (row.length - 1)) x else x = 0
theorem derived_any {w : World} {B cap : Nat} {A : Option Addr} {row : List Lt} (hr : RdL ltS w B (.slice A row.length cap) row) (hB : B ≤ w.heap.size) (hsm : row.length ≤ 100) :
    Calls Tryd.prog 22 #[.slice A row.length cap] w fun e w' => ∃ x : Nat, e = .returned (.int .i64 (x : Int)) ∧ DvN row x ∧ Below w.heap.size w w' := by
  by_cases h2 : 2 ≤ row.length
  · obtain ⟨n, hlen⟩ : ∃ n : Nat, row.length = n + 1 := ⟨row.length - 1, by omega⟩
    have hn1 : 1 ≤ n := by omega
    have hnlt : n < row.length := by omega
    obtain ⟨a, rfl, hab, q0, -, -, -, -⟩ := at_lt hr hnlt
    have hkd : kd row n = row[n].kind := by unfold kd; rw [List.getElem?_eq_getElem hnlt]; rfl
    have HR := Lib.hid hr; have HLN := Lib.hid hlen; have HKD := Lib.hid hkd; have H2 := Lib.hid h2
    have hm1 : IntKind.i64.wrap ((row.length : Int) - 1) = (n : Int) := by rw [show (row.length : Int) - 1 = (n : Int) from by omega]; exact IntWalk.i64_in _ (by omega)
    have hm2 : (row.length : Int) - 1 = (n : Int) := by omega
    have HTB := Lib.hid (TbAt.first w (some a) n cap row.length)
    clear hr hkd h2
    generalize row[n].kind = kk at *
    by_cases hk : kk = 0
    · have HV := Lib.hid (fun (x : Nat) (h : IsW .list (pc row 0 n) x) => show DvN row x from by
        unfold DvN; rw [if_pos ⟨H2.out, by rw [HLN.out, Nat.add_sub_cancel, HKD.out, hk]⟩, HLN.out, Nat.add_sub_cancel]; exact h)
      subst hk
      go_enter Tryd.func22, Tryd.ntmps22
      clear hlen
      go_upto_region 4 with fail
      iterate 16 go_step
      exact Code.wp_mono (fun e a' w' q => bodyPost_mono (fun e w' ⟨x, h1, h2, h3⟩ => ⟨x, h1, HV.out x h2, ((Below.refl _ _).alloc (Nat.le_refl _) _).trans h3⟩) e a' w' q) (derived_make HTB.out (HR.out.alloc hB _) hB hsm HLN.out hn1 _ _ _ _ _ _ _ _ _ _ _ _ _ _ _ _ _ _ _ _ _ _ _ _ _ _ _ _ _ _ _ _ _ _ _ _ _ _ _ _ _ _ _ _ _ _ _ _ _ _ _ _ _ _ _ _ _ _ _ _ _ _ _ _ _ _ _ _ _ _ _ _ _ _)
    · have HV := Lib.hid (show DvN row 0 from by
        unfold DvN; rw [if_neg (fun h => hk (by have := h.2; rw [HLN.out, Nat.add_sub_cancel, HKD.out] at this; exact this))])
      have hkb : (kk != 0) = true := by simpa using hk
      clear hk hlen
      go_enter Tryd.func22, Tryd.ntmps22
      go_wp2
      go_ret
      exact ⟨0, rfl, HV.out, Below.refl _ _⟩
  · have HV := Lib.hid (show DvN row 0 from by unfold DvN; rw [if_neg (fun h => h2 h.1)])
    have hlt : (row.length : Int) - 1 < 1 := by omega
    have hm1 : IntKind.i64.wrap ((row.length : Int) - 1) = (row.length : Int) - 1 := IntWalk.i64_in _ (by omega)
    clear hr
    go_enter Tryd.func22, Tryd.ntmps22
    go_wp2
    go_ret
    exact ⟨0, rfl, HV.out, Below.refl _ _⟩
end Go.Proofs.YtcomdkejpaoneaaDoor
end
section
namespace Go.Proofs.YtcomdkejpaoneaaDoor
open Go.RowKit
set_option maxRecDepth 100000
set_option maxHeartbeats 4000000
set_option linter.unusedSimpArgs false
set_option linter.unusedVariables false
def nvLeaf (kind : Int) (field text : List UInt8) (n : Int) : NV := ⟨kind, field, text, n, bd0, bd0, ⟨none, 0, 0⟩, ⟨none, 0, 0⟩⟩
theorem nd_leaf (w : World) (F : Nat → Prop) (kind : Int) (field text : List UInt8) (n : Int) : NdR w F (nvLeaf kind field text n) (ndLeaf kind field text n) :=
  .mk (RdF.nil _ _ _) (RdF.nil _ _ _) rfl fun i x t hx _ => by simp at hx
def TrRet (F : Nat → Prop) (t : Nd) (w : World) (e : Ending) (w' : World) : Prop := Below w.heap.size w w' ∧ ∃ x : NV, e = .returned x.val ∧ NdR w' F x t
theorem NdR.belowW {w w' : World} {F : Nat → Prop} {x : NV} {t : Nd} (h : NdR w F x t) (hb : Below w.heap.size w w') : NdR w' F x t := h.keep fun p _ hlt => hb.cell hlt
theorem NdRs.belowW {w w' : World} {F : Nat → Prop} {nl : List NV} {ts : List Nd} (h : NdRs w F nl ts) (hb : Below w.heap.size w w') : NdRs w' F nl ts := h.keep fun p _ hlt => hb.cell hlt
theorem RdF.belowW {α : Type} {S : Shape α} {w w' : World} {F : Nat → Prop} {s : Sl} {l : List α} (h : RdF S w F s l) (hb : Below w.heap.size w w') : RdF S w' F s l := h.keep fun p _ hlt => hb.cell hlt
theorem treeN_ne {l : List (Int × Nd)} (h : ∀ x, l ≠ [(0, x)]) : treeN l = ndList 0 l := by
  cases l with
  | nil => rfl
  | cons a r =>
    obtain ⟨o, x⟩ := a
    cases r with
    | nil =>
      by_cases ho : o = 0
      · subst ho; exact absurd rfl (h x)
      · unfold treeN
        split
        · rename_i heq; injection heq with h1 _; injection h1 with h1 _; exact absurd h1 ho
        · rfl
    | cons b r =>
      unfold treeN
      split
      · rename_i heq; injection heq with _ h2; cases h2
      · rfl
theorem RdF.nd0 {w : World} {F : Nat → Prop} {A : Option Addr} {n c : Nat} {x : NV} {l : List NV} (h : RdF ndS w F ⟨A, n, c⟩ (x :: l)) : ∃ a, A = some a ∧ F a.block ∧ a.block < w.heap.size ∧ w.cell? a = some (.int .i64 x.kind) ∧ (∀ j u, x.cells[j + 1]? = some u → w.cell? ⟨a.block, a.off + (j + 1), none⟩ = some u) := by
  obtain ⟨-, -, -, h4, -⟩ := h
  obtain ⟨a, e, hb, hc⟩ := h4 (by simp)
  have hcs : ∀ j u, x.cells[j]? = some u → w.cell? (a.add j) = some u := fun j u hu => hc j u (by
    have e2 : ndS.cells (x :: l) = x.cells ++ ndS.cells l := rfl
    rw [e2, List.getElem?_append_left (List.getElem?_eq_some_iff.1 hu).1]; exact hu)
  have h0 := hcs 0 _ (by rfl)
  have e0 : a.add 0 = a := by unfold Addr.add; rfl
  rw [e0] at h0
  refine ⟨a, e, hb, World.block_lt_of_cell? w a h0, h0, fun j u hu => ?_⟩
  have := hcs (j + 1) u hu
  rw [show a.add (j + 1) = ⟨a.block, a.off + (j + 1), none⟩ from by rw [Addr.add, if_neg (by omega)]] at this
  exact this
theorem ptree_any (w : World) (F : Nat → Prop) (sk so : Sl) (nl : List NV) (l : List (Int × Nd)) (hk : RdF ndS w F sk nl) (ho : RdF folS w F so (l.map (·.1))) (hn : NdRs w F nl (l.map (·.2))) (hF : ∀ b, F b → b < w.heap.size) :
    Calls Tryd.prog 36 #[.slice sk.a sk.n sk.c, .slice so.a so.n so.c] w (TrRet F (treeN l) w) := by
  have hlen : nl.length = l.length := by rw [hn.1, List.length_map]
  have hkn : sk.n = nl.length := hk.1
  have hon : so.n = l.length := by rw [ho.1, List.length_map]
  have HK := Lib.hid hk; have HO := Lib.hid ho; have HN := Lib.hid hn
  obtain ⟨ka, kn, kc⟩ := sk
  obtain ⟨oa, on, oc⟩ := so
  simp only [] at hkn hon
  have HB1 := Lib.hid (show Below w.heap.size w (w.alloc (.cells #[.int .i64 9, .string ⟨#[]⟩, .string ⟨#[]⟩, .int .i64 0, .bool false, .bool false, .string ⟨#[]⟩, .bool false, .bool false, .string ⟨#[]⟩, .slice oa on oc, .slice ka kn kc] 36)) from (Below.refl _ _).alloc (Nat.le_refl _) _)
  have hfin : ∀ {e : Ending}, treeN l = ndList 0 l → e = .returned (.agg #[.int .i64 9, .string ⟨#[]⟩, .string ⟨#[]⟩, .int .i64 0, .bool false, .bool false, .string ⟨#[]⟩, .bool false, .bool false, .string ⟨#[]⟩, .slice oa on oc, .slice ka kn kc]) → TrRet F (treeN l) w e (w.alloc (.cells #[.int .i64 9, .string ⟨#[]⟩, .string ⟨#[]⟩, .int .i64 0, .bool false, .bool false, .string ⟨#[]⟩, .bool false, .bool false, .string ⟨#[]⟩, .slice oa on oc, .slice ka kn kc] 36)) := by
    intro e hT he
    refine ⟨HB1.out, ⟨9, [], [], 0, bd0, bd0, ⟨oa, on, oc⟩, ⟨ka, kn, kc⟩⟩, he, ?_⟩
    rw [hT]
    exact .mk (HO.out.belowW HB1.out) (HK.out.belowW HB1.out) HN.out.1 (HN.out.belowW HB1.out).2
  have HFIN : Hid (∀ e : Ending, treeN l = ndList 0 l → e = .returned (.agg #[.int .i64 9, .string ⟨#[]⟩, .string ⟨#[]⟩, .int .i64 0, .bool false, .bool false, .string ⟨#[]⟩, .bool false, .bool false, .string ⟨#[]⟩, .slice oa on oc, .slice ka kn kc]) → TrRet F (treeN l) w e (w.alloc (.cells #[.int .i64 9, .string ⟨#[]⟩, .string ⟨#[]⟩, .int .i64 0, .bool false, .bool false, .string ⟨#[]⟩, .bool false, .bool false, .string ⟨#[]⟩, .slice oa on oc, .slice ka kn kc] 36))) := Lib.hid fun e h1 h2 => hfin h1 h2
  clear hk ho hn hfin
  by_cases h1 : l.length = 1
  · obtain ⟨⟨o, x⟩, rfl⟩ := List.length_eq_one_iff.1 h1
    obtain ⟨nv, rfl⟩ := List.length_eq_one_iff.1 hlen
    have hka : kn = 1 := by rw [hkn]; rfl
    have hoa : on = 1 := by rw [hon]; rfl
    subst hka hoa
    have h4 := HO.out.2.2.2.1 (by simp)
    obtain ⟨a, rfl, hab, hac⟩ := h4
    have hoc := hac 0 (.int .i64 o) (by rfl)
    rw [show a.add 0 = a from by unfold Addr.add; rfl] at hoc
    have hal : a.block < w.heap.size := hF _ hab
    by_cases ho0 : o = 0
    · subst ho0
      obtain ⟨b, rfl, hbF, hbl, hc0, hc⟩ := HK.out.nd0
      obtain ⟨kd, fl, tx, n, ⟨l1, l2, l3⟩, ⟨r1, r2, r3⟩, ⟨sa, sn, sc⟩, ⟨ta, tn, tc⟩⟩ := nv
      have d1 := hc 0 _ rfl; have d2 := hc 1 _ rfl; have d3 := hc 2 _ rfl; have d4 := hc 3 _ rfl; have d5 := hc 4 _ rfl; have d6 := hc 5 _ rfl
      have d7 := hc 6 _ rfl; have d8 := hc 7 _ rfl; have d9 := hc 8 _ rfl; have d10 := hc 9 _ rfl; have d11 := hc 10 _ rfl
      simp only [Nat.zero_add, Nat.reduceAdd] at d1 d2 d3 d4 d5 d6 d7 d8 d9 d10 d11 hc0
      have HR := Lib.hid (HN.out.2 0 _ x rfl rfl)
      clear hc hac h1 hlen hkn hon
      go_enter Tryd.func36, Tryd.ntmps36
      go_wp2
      refine bodyPost_ret (v := NV.val ⟨kd, fl, tx, n, ⟨l1, l2, l3⟩, ⟨r1, r2, r3⟩, ⟨sa, sn, sc⟩, ⟨ta, tn, tc⟩⟩) ?_ rfl ?_
      · simp [results, Tryd.results36, go_sem, World.cell?_alloc_new, NV.val]
      · have hb := (Below.refl w.heap.size w).alloc (Nat.le_refl _) (.cells #[.int .i64 kd, .string (str fl), .string (str tx), .int .i64 n, .bool l1, .bool l2, .string (str l3), .bool r1, .bool r2, .string (str r3), .slice sa sn sc, .slice ta tn tc] 36)
        exact ⟨hb, _, rfl, HR.out.belowW hb⟩
    · have HT := Lib.hid (treeN_ne (l := [(o, x)]) (fun y h => by injection h with h _; injection h with h _; exact ho0 h))
      have e0 : (o == 0) = false := by simpa using ho0
      clear hac h1 hlen hkn hon ho0
      go_enter Tryd.func36, Tryd.ntmps36
      go_wp2
      refine bodyPost_ret (v := .agg #[.int .i64 9, .string ⟨#[]⟩, .string ⟨#[]⟩, .int .i64 0, .bool false, .bool false, .string ⟨#[]⟩, .bool false, .bool false, .string ⟨#[]⟩, .slice (some a) 1 oc, .slice ka 1 kc]) ?_ rfl ?_
      · simp [results, Tryd.results36, go_sem, World.cell?_alloc_new]
      · exact HFIN.out _ HT.out rfl
  · have HT := Lib.hid (treeN_ne (l := l) (fun y h => h1 (by rw [h]; rfl)))
    have e0 : ((kn : Int) == 1) = false := by rw [hkn, hlen]; simp; omega
    clear h1 hlen hkn hon
    go_enter Tryd.func36, Tryd.ntmps36
    go_wp2
    refine bodyPost_ret (v := .agg #[.int .i64 9, .string ⟨#[]⟩, .string ⟨#[]⟩, .int .i64 0, .bool false, .bool false, .string ⟨#[]⟩, .bool false, .bool false, .string ⟨#[]⟩, .slice oa on oc, .slice ka kn kc]) ?_ rfl ?_
    · simp [results, Tryd.results36, go_sem, World.cell?_alloc_new]
    · exact HFIN.out _ HT.out rfl
def bdVal (b : Bd) : Value := .agg #[.bool b.open_, .bool b.in_, .string (str b.text)]
theorem pside_any (t : Lt) (i : Bool) (w : World) : Calls Tryd.prog 107 #[ltVal t, .bool i] w fun e w' => e = .returned (bdVal (sideN t i)) ∧ Below w.heap.size w w' := by
  obtain ⟨k, tx, n, a, b⟩ := t
  unfold ltVal
  simp only []
  by_cases hk : k = 2
  · have e2 : (k == 2) = true := by simpa using hk
    have HR := Lib.hid (show sideN ⟨k, tx, n, a, b⟩ i = ⟨true, false, []⟩ from by unfold sideN; rw [if_pos hk])
    clear hk
    rw [HR.out]
    go_enter Tryd.func107, Tryd.ntmps107
    go_wp2
    refine bodyPost_ret (v := .agg #[.bool true, .bool false, .string ⟨#[]⟩]) ?_ rfl ?_
    · simp [results, Tryd.results107, go_sem, World.cell?_alloc_new]
    · exact ⟨rfl, ((Below.refl _ _).alloc (Nat.le_refl _) _).alloc (by rw [World.size_alloc]; omega) _⟩
  · have e2 : (k == 2) = false := by simpa using hk
    have HR := Lib.hid (show sideN ⟨k, tx, n, a, b⟩ i = ⟨false, i, tx⟩ from by unfold sideN; rw [if_neg hk])
    clear hk
    rw [HR.out]
    go_enter Tryd.func107, Tryd.ntmps107
    go_wp2
    refine bodyPost_ret (v := .agg #[.bool false, .bool i, .string (str tx)]) ?_ rfl ?_
    · simp [results, Tryd.results107, go_sem, World.cell?_alloc_new]
    · exact ⟨rfl, ((Below.refl _ _).alloc (Nat.le_refl _) _).alloc (by rw [World.size_alloc]; omega) _⟩
end Go.Proofs.YtcomdkejpaoneaaDoor
end
section
namespace Go.Proofs.YtcomdkejpaoneaaDoor
open Go.RowKit
set_option maxRecDepth 100000
set_option maxHeartbeats 4000000
set_option linter.unusedSimpArgs false
set_option linter.unusedVariables false
def patOk : List UInt8 → Prop
  | [] => True
  | [c] => c ≠ 92
  | c :: d :: r => if c = 92 then patOk r else patOk (d :: r)
def PatRet (t : Nd) (w : World) (e : Ending) (w' : World) : Prop := Below w.heap.size w w' ∧ ∃ (kd : Int) (f tx : List UInt8), t = ndLeaf kd f tx 0 ∧ e = .returned (nvLeaf kd f tx 0).val
theorem ownB_frm {w : World} {B : Nat} {v : Value} {l : List UInt8} (h : OwnB w B v l) : ∃ A cp, v = .slice A l.length cp := by
  rcases h.2 with ⟨rfl, h0⟩ | ⟨g, cap, cur, rfl, _⟩
  · exact ⟨none, 0, by rw [h0]⟩
  · exact ⟨_, _, rfl⟩
def PatRel (f : List UInt8) (s : ByteArray) (w1 : World) (lv iv : Value) (wr : World) : Prop :=
  ∃ (i : Nat) (L : List UInt8), i ≤ s.size ∧ iv = .int .i64 (i : Int) ∧ OwnB wr w1.heap.size lv L ∧ L.length ≤ i ∧ patF f s.data.toList [] s.data.toList = patF f s.data.toList L (s.data.toList.drop i) ∧ patOk (s.data.toList.drop i) ∧ Below w1.heap.size w1 wr
theorem u8_eq (c : UInt8) (k : Nat) (hk : k < 256) : ((c.toNat : Int) == (k : Int)) = decide (c = UInt8.ofNat k) := by
  by_cases h : c = UInt8.ofNat k
  · subst h
    rw [decide_eq_true rfl]
    have : (UInt8.ofNat k).toNat = k := by rw [UInt8.toNat_ofNat']; omega
    rw [this]; simp
  · rw [decide_eq_false h]
    have : c.toNat ≠ k := fun e => h (by rw [← e]; simp)
    simpa using fun e : (c.toNat : Int) = (k : Int) => this (by omega)
theorem ppattern_any (f : List UInt8) (s : ByteArray) (w : World) (hs : s.size ≤ 10000000) (hok : patOk s.data.toList) :
    Calls Tryd.prog 106 #[.string (str f), .string s] w (PatRet (patN f s.data.toList) w) := by
  by_cases hst : s.data.toList = [42]
  · have e1 : (s.toList == [42]) = true := by rw [ba_toList, hst]; rfl
    have HR := Lib.hid (show patN f s.data.toList = ndLeaf 7 f [] 0 from by unfold patN; rw [if_pos hst])
    clear hst hok
    go_enter Tryd.func106, Tryd.ntmps106
    go_wp2
    refine bodyPost_ret (v := (nvLeaf 7 f [] 0).val) ?_ rfl ?_
    · simp [results, Tryd.results106, go_sem, World.cell?_alloc_new, NV.val, nvLeaf, bd0, str]
    · exact ⟨(Below.refl _ _).alloc (Nat.le_refl _) _, _, _, _, HR.out, rfl⟩
  have e1 : (s.toList == [42]) = false := by rw [ba_toList]; simpa using hst
  have HPN := Lib.hid (show patN f s.data.toList = patF f s.data.toList [] s.data.toList from by unfold patN; rw [if_neg hst])
  have HOK := Lib.hid hok
  have HSL := Lib.hid (ba_size s)
  have HSTR := Lib.hid (show str s.data.toList = s from rfl)
  clear hst hok
  have HB1 := Lib.hid (show Below w.heap.size w (w.alloc (.cells #[.int .i64 0, .string ⟨#[]⟩, .string ⟨#[]⟩, .int .i64 0, .bool false, .bool false, .string ⟨#[]⟩, .bool false, .bool false, .string ⟨#[]⟩, .slice none 0 0, .slice none 0 0] 36)) from (Below.refl _ _).alloc (Nat.le_refl _) _)
  have HZ := Lib.hid (Blk.new w 36 #[.int .i64 0, .string ⟨#[]⟩, .string ⟨#[]⟩, .int .i64 0, .bool false, .bool false, .string ⟨#[]⟩, .bool false, .bool false, .string ⟨#[]⟩, .slice none 0 0, .slice none 0 0])
  go_enter Tryd.func106, Tryd.ntmps106
  go_upto_region 3 with (fail)
  generalize w.alloc (.cells #[.int .i64 0, .string ⟨#[]⟩, .string ⟨#[]⟩, .int .i64 0, .bool false, .bool false, .string ⟨#[]⟩, .bool false, .bool false, .string ⟨#[]⟩, .slice none 0 0, .slice none 0 0] 36) = w1 at *
  have HO1 := Lib.hid (OwnB.lit0 w1 (Nat.le_refl _))
  have HB0 := Lib.hid (show Below w1.heap.size w1 (w1.alloc (.cells #[] 5)) from (Below.refl _ _).alloc (Nat.le_refl _) _)
  go_wp2
  go_loopw [5, 6] (fun lv iv wr => PatRel f s w1 lv iv wr) (fun _ iv _ => s.size - (intOf iv).toNat)
  case atStart => exact ⟨0, [], Nat.zero_le _, rfl, HO1.out, Nat.zero_le _, rfl, HOK.out, HB0.out⟩
  case round =>
    obtain ⟨i, L, hi, rfl, ho, hLi, hp, hpo, hb⟩ := hrel
    have HO := Lib.hid ho; have HP := Lib.hid hp; have HB := Lib.hid hb; have HPO := Lib.hid hpo
    have HBW := Lib.hid (HB1.out.trans (hb.mono HB1.out.size))
    have hsz : w1.heap.size ≤ wr.heap.size := hb.size
    have hzz := HZ.out.below hb HZ.out.lt
    have hzc := fun j => hzz.cell j
    have z0 := hzz.cell 0; have z1 := hzz.cell 1; have z2 := hzz.cell 2; have z3 := hzz.cell 3; have z4 := hzz.cell 4; have z5 := hzz.cell 5; have z6 := hzz.cell 6; have z7 := hzz.cell 7; have z8 := hzz.cell 8; have z9 := hzz.cell 9; have z10 := hzz.cell 10; have z11 := hzz.cell 11
    have fz0 := hzz.frozen 0; have fz1 := hzz.frozen 1; have fz2 := hzz.frozen 2; have fz3 := hzz.frozen 3; have fz4 := hzz.frozen 4; have fz5 := hzz.frozen 5; have fz6 := hzz.frozen 6; have fz7 := hzz.frozen 7; have fz8 := hzz.frozen 8; have fz9 := hzz.frozen 9; have fz10 := hzz.frozen 10; have fz11 := hzz.frozen 11
    have lz := hzz.lt
    simp only [List.getElem?_toArray, List.getElem?_cons_zero, List.getElem?_cons_succ] at z0 z1 z2 z3 z4 z5 z6 z7 z8 z9 z10 z11
    have hwk : IntKind.i64.wrap ((i : Int) + 1) = (i : Int) + 1 := IntWalk.i64_in _ (by omega)
    obtain ⟨A5, c5, rfl⟩ := ownB_frm ho
    clear ho hp hb hpo hzz hzc
    by_cases hlt : i < s.size
    · skip
      have hbx := u8_lt s[i]
      have HD := Lib.hid (show s.data.toList.drop i = s[i] :: s.data.toList.drop (i + 1) from by rw [List.drop_eq_getElem_cons (show i < s.data.toList.length from by rw [← ba_size]; exact hlt)]; rfl)
      have u63 := u8_eq s[i] 63 (by omega)
      have u42 := u8_eq s[i] 42 (by omega)
      have u92 := u8_eq s[i] 92 (by omega)
      have HPD := Lib.hid (show patF f s.data.toList [] s.data.toList = patF f s.data.toList L (s[i] :: s.data.toList.drop (i + 1)) from by rw [HP.out, HD.out])
      have HPOD := Lib.hid (show patOk (s[i] :: s.data.toList.drop (i + 1)) from by rw [← HD.out]; exact HPO.out)
      have HU := Lib.hid (And.intro u63 (And.intro u42 u92))
      clear u63 u42 u92
      have hnil : (s.data.toList.drop (i + 1) = [] ∧ ¬ i + 1 < s.size) ∨ (∃ d r, i + 1 < s.size ∧ s.data.toList.drop (i + 1) = d :: r) := by
        by_cases h : i + 1 < s.size
        · right
          have h2 : i + 1 < s.data.toList.length := by rw [← ba_size]; exact h
          exact ⟨_, _, h, List.drop_eq_getElem_cons h2⟩
        · left
          exact ⟨List.drop_eq_nil_of_le (by rw [← ba_size]; omega), h⟩
      have HNIL := Lib.hid hnil
      clear hnil
      by_cases h63 : s[i] = 63
      · have e63 : ((s[i].toNat : Int) == 63) = true := by have := HU.out.1; rw [h63] at this ⊢; rfl
        have HR := Lib.hid (show patN f s.data.toList = ndLeaf 4 f s.data.toList 0 from by
          rw [HPN.out, HPD.out]
          rcases HNIL.out with ⟨h, _⟩ | ⟨d, r, _, h⟩
          · rw [h, patF, if_neg (by rw [h63]; decide)]
          · rw [h, patF, if_pos (.inl h63)])
        clear h63
        go_wp2
        refine bodyPost_ret (v := (nvLeaf 4 f s.data.toList 0).val) ?_ rfl ?_
        · simp [results, Tryd.results106, go_sem, NV.val, nvLeaf, bd0, str, lz, fz0, fz1, fz2, fz3, fz4, fz5, fz6, fz7, fz8, fz9, fz10, fz11, z0, z1, z2, z3, z4, z5, z6, z7, z8, z9, z10, z11]
        · refine ⟨?_, _, _, _, HR.out, rfl⟩
          repeat (first | with_reducible exact HBW.out | with_reducible refine Below.setCell ?_ (by show w.heap.size ≤ w.heap.size; exact Nat.le_refl _) _)
      have e63 : ((s[i].toNat : Int) == 63) = false := HU.out.1.trans (decide_eq_false h63)
      by_cases h42 : s[i] = 42
      · have e42 : ((s[i].toNat : Int) == 42) = true := by rw [h42]; rfl
        rcases HNIL.out with ⟨hd, hn⟩ | ⟨d, r, hn, hd⟩
        · have HR := Lib.hid (show patN f s.data.toList = ndLeaf 3 f L 0 from by rw [HPN.out, HPD.out, hd, patF, if_pos h42])
          have HC := Lib.hid HO.out.conv
          have hcv := fun (W : World) (hW : OwnB W w1.heap.size (.slice A5 L.length c5) L) => hW.conv
          have hcv2 := HC.out
          clear h42 h63 hd hcv
          have e3 : decide ((i : Int) + 1 < (s.size : Int)) = false := by simp; omega
          go_wp2
          refine bodyPost_ret (v := (nvLeaf 3 f L 0).val) ?_ rfl ?_
          · simp [results, Tryd.results106, go_sem, NV.val, nvLeaf, bd0, str, lz, fz0, fz1, fz2, fz3, fz4, fz5, fz6, fz7, fz8, fz9, fz10, fz11, z0, z1, z2, z3, z4, z5, z6, z7, z8, z9, z10, z11]
          · refine ⟨?_, _, _, _, HR.out, rfl⟩
            repeat (first | with_reducible exact HBW.out | with_reducible refine Below.setCell ?_ (by show w.heap.size ≤ w.heap.size; exact Nat.le_refl _) _)
        · have HR := Lib.hid (show patN f s.data.toList = ndLeaf 4 f s.data.toList 0 from by rw [HPN.out, HPD.out, hd, patF, if_pos (.inr h42)])
          clear h42 h63 hd
          go_wp2
          refine bodyPost_ret (v := (nvLeaf 4 f s.data.toList 0).val) ?_ rfl ?_
          · simp [results, Tryd.results106, go_sem, NV.val, nvLeaf, bd0, str, lz, fz0, fz1, fz2, fz3, fz4, fz5, fz6, fz7, fz8, fz9, fz10, fz11, z0, z1, z2, z3, z4, z5, z6, z7, z8, z9, z10, z11]
          · refine ⟨?_, _, _, _, HR.out, rfl⟩
            repeat (first | with_reducible exact HBW.out | with_reducible refine Below.setCell ?_ (by show w.heap.size ≤ w.heap.size; exact Nat.le_refl _) _)
      have e42 : ((s[i].toNat : Int) == 42) = false := HU.out.2.1.trans (decide_eq_false h42)
      by_cases h92 : s[i] = 92
      · have e92 : ((s[i].toNat : Int) == 92) = true := by rw [h92]; rfl
        rcases HNIL.out with ⟨hd, hn⟩ | ⟨d, r, hn, hd⟩
        · exact absurd h92 (by have h := HPOD.out; rw [hd] at h; exact h)
        · have hdv : d = s[i + 1] ∧ r = s.data.toList.drop (i + 2) := by
            have h := hd
            rw [List.drop_eq_getElem_cons (show i + 1 < s.data.toList.length from by rw [← ba_size]; exact hn)] at h
            injection h with h1 h2
            exact ⟨h1.symm, h2.symm⟩
          have HN2 := Lib.hid (show patF f s.data.toList [] s.data.toList = patF f s.data.toList (L ++ [s[i + 1]]) (s.data.toList.drop (i + 2)) from by
            rw [HPD.out, hd, patF, if_neg (by rw [not_or]; exact ⟨h63, h42⟩), if_pos h92, ← hdv.1, ← hdv.2])
          have HK2 := Lib.hid (show patOk (s.data.toList.drop (i + 2)) from by
            have h := HPOD.out
            rw [hd, patOk, if_pos h92] at h
            rw [← hdv.2]; exact h)
          have hbx2 := u8_lt s[i + 1]
          have hwk2 : IntKind.i64.wrap ((i : Int) + 1 + 1) = (i : Int) + 1 + 1 := IntWalk.i64_in _ (by omega)
          clear h92 h63 h42 hd hdv
          go_wp2_with (at_builtin; refine OwnB.append HO.out s[i + 1].toNat (by omega) (by omega) rfl _ _ rfl rfl rfl hsz ?_ ?_)
          · omega
          · intro v' w' h2 h3
            have H2 := Lib.hid h2; have HB3 := Lib.hid (HB.out.trans h3)
            clear h2 h3
            go_wp2
            go_roundw
            case rel => exact ⟨i + 2, L ++ [s[i + 1]], by omega, by go_num, by have h := H2.out; simpa using h, by rw [List.length_append, List.length_singleton]; omega, HN2.out, HK2.out, HB3.out⟩
            case measure => simp [intOf]; omega
      have e92 : ((s[i].toNat : Int) == 92) = false := HU.out.2.2.trans (decide_eq_false h92)
      have HN2 := Lib.hid (show patF f s.data.toList [] s.data.toList = patF f s.data.toList (L ++ [s[i]]) (s.data.toList.drop (i + 1)) from by
        rw [HPD.out]
        rcases HNIL.out with ⟨hd, _⟩ | ⟨d, r, _, hd⟩
        · rw [hd]; unfold patF; rw [if_neg h42]
        · rw [hd, patF, if_neg (by rw [not_or]; exact ⟨h63, h42⟩), if_neg h92])
      have HK2 := Lib.hid (show patOk (s.data.toList.drop (i + 1)) from by
        have h := HPOD.out
        rcases HNIL.out with ⟨hd, _⟩ | ⟨d, r, _, hd⟩
        · rw [hd]; trivial
        · rw [hd, patOk, if_neg h92] at h
          rw [hd]; exact h)
      clear h92 h63 h42
      go_wp2_with (at_builtin; refine OwnB.append HO.out s[i].toNat (by omega) (by omega) rfl _ _ rfl rfl rfl hsz ?_ ?_)
      · omega
      · intro v' w' h2 h3
        have H2 := Lib.hid h2; have HB3 := Lib.hid (HB.out.trans h3)
        clear h2 h3
        go_wp2
        go_roundw
        case rel => exact ⟨i + 1, L ++ [s[i]], by omega, by go_num, by have h := H2.out; simpa using h, by rw [List.length_append, List.length_singleton]; omega, HN2.out, HK2.out, HB3.out⟩
        case measure => simp [intOf]; omega
    · have HR := Lib.hid (show patN f s.data.toList = ndLeaf 4 f s.data.toList 0 from by rw [HPN.out, HP.out, List.drop_eq_nil_of_le (by rw [← ba_size]; omega), patF])
      go_wp2
      refine bodyPost_ret (v := (nvLeaf 4 f s.data.toList 0).val) ?_ rfl ?_
      · simp [results, Tryd.results106, go_sem, NV.val, nvLeaf, bd0, str, lz, fz0, fz1, fz2, fz3, fz4, fz5, fz6, fz7, fz8, fz9, fz10, fz11, z0, z1, z2, z3, z4, z5, z6, z7, z8, z9, z10, z11]
      · refine ⟨?_, _, _, _, HR.out, rfl⟩
        repeat (first | with_reducible exact HBW.out | with_reducible refine Below.setCell ?_ (by show w.heap.size ≤ w.heap.size; exact Nat.le_refl _) _)
end Go.Proofs.YtcomdkejpaoneaaDoor
end
