/- Merged for a claim: Ne In -/
import Derived.Test.YtmdpfikalekmlaaGreatDoorKo3
import Derived.Test.YtmdpfikalekmlaaGreatDoorOr
import Derived.Deep.QuietTactic
import Derived.Test.YtmdpfikalekmlaaGreatDoorPh
import Derived.Deep.RegionHeldLaw
section
/- Layer 20: a phrase under way. -/
namespace Go.Proofs.YtmdpfikalekmlaaGreatDoor
open Go.RowKit
set_option maxRecDepth 100000
set_option maxHeartbeats 4000000
set_option linter.unusedSimpArgs false
set_option linter.unusedVariables false

theorem addr_zero (a : Addr) : a.add 0 = a := by unfold Addr.add; rw [if_pos rfl]
theorem addr_one (a : Addr) : a.add 1 = ⟨a.block, a.off + 1, none⟩ := by unfold Addr.add; rw [if_neg (by decide)]
theorem keptNew {W w' : World} {v : Value} {N : Nat} (hk : KeptBut W w' v) (hv : ∀ z, v.ownBlock = some z → z < N) : ∀ b o u, N ≤ b → W.cell? ⟨b, o, none⟩ = some u → w'.cell? ⟨b, o, none⟩ = some u := by
  intro b o u hb h
  rw [hk.cell (Lib.lt_of_cell h) (fun e => by have := hv b e; omega)]
  exact h
theorem alloc_cell0 {w : World} {n : Nat} {x : Value} {t : TypeId} (hn : n = w.heap.size) : (w.alloc (.cells #[x] t)).cell? ⟨n, 0, none⟩ = some x := by
  subst hn; rw [World.cell?_alloc_new]; rfl
/-- A phrase under way: its block, its two lists, and a pair just read. -/
structure Nst (w0 W : World) (E nb pg : Nat) (vc vo : Value) (vc0 vo0 : Value) (la lo : List Int) (a b sl : Int) : Prop where
  blk : Blk W nb 68 #[vc0, vo0, .int .i64 sl]
  oc : OwnL intS W E vc la
  oo : OwnL intS W E vo lo
  ne : ∀ g, vc.ownBlock = some g → vo.ownBlock ≠ some g
  p0 : W.cell? ⟨pg, 0, none⟩ = some (.int .i64 a)
  p1 : W.cell? ⟨pg, 1, none⟩ = some (.int .i64 b)
  pc : vc.ownBlock ≠ some pg
  po : vo.ownBlock ≠ some pg
  plt : pg < W.heap.size
  hE : E ≤ W.heap.size
  b0 : Below E w0 W
  hnb : E ≤ nb
section
variable {w0 W W' : World} {E nb pg : Nat} {vc vo vc0 vo0 v : Value} {la lo : List Int} {a b sl : Int}
theorem Nst.drew (h : Nst w0 W E nb pg vc vo vc0 vo0 la lo a b sl) : Nst w0 W.drew E nb pg vc vo vc0 vo0 la lo a b sl := ⟨h.blk, h.oc, h.oo, h.ne, h.p0, h.p1, h.pc, h.po, h.plt, h.hE, h.b0.drew, h.hnb⟩
theorem Nst.alloc (h : Nst w0 W E nb pg vc vo vc0 vo0 la lo a b sl) (o : Obj) : Nst w0 (W.alloc o) E nb pg vc vo vc0 vo0 la lo a b sl :=
  ⟨h.blk.alloc o, h.oc.alloc o, h.oo.alloc o, h.ne, (World.cell?_alloc_lt W o _ h.plt).trans h.p0, (World.cell?_alloc_lt W o _ h.plt).trans h.p1, h.pc, h.po, by rw [World.size_alloc]; have := h.plt; omega, by rw [World.size_alloc]; have := h.hE; omega, h.b0.alloc h.hE _, h.hnb⟩
theorem Nst.appC (h : Nst w0 W E nb pg vc vo vc0 vo0 la lo a b sl) {g c n : Nat} {x : Int} (ho : OwnL intS W' E (.slice (some ⟨g, 0, none⟩) n c) (la ++ [x])) (hb : Below E W W') (hk : KeptBut W W' vc) (hg : vc.ownBlock = some g ∨ g = W.heap.size) :
    Nst w0 W' E nb pg (.slice (some ⟨g, 0, none⟩) n c) vo vc0 vo0 (la ++ [x]) lo a b sl := by
  have hs := hb.size
  refine ⟨h.blk.keptL h.oc (by decide) hk, ho, h.oo.keptNe hk (fun g hg e => h.ne g e hg), ?_, (hk.cell h.plt h.pc).trans h.p0, (hk.cell h.plt h.pc).trans h.p1, ?_, h.po, by have := h.plt; omega, by have := h.hE; omega, h.b0.trans hb, h.hnb⟩
  · intro z hz e
    rw [own_some] at hz
    injection hz with hz
    subst hz
    rcases hg with hg | hg
    · exact h.ne _ hg e
    · have := (h.oo.lt _ e).2; omega
  · rw [own_some]
    intro e
    injection e with e
    subst e
    rcases hg with hg | hg
    · exact h.pc hg
    · have := h.plt; omega
theorem Nst.appO (h : Nst w0 W E nb pg vc vo vc0 vo0 la lo a b sl) {g c n : Nat} {x : Int} (ho : OwnL intS W' E (.slice (some ⟨g, 0, none⟩) n c) (lo ++ [x])) (hb : Below E W W') (hk : KeptBut W W' vo) (hg : vo.ownBlock = some g ∨ g = W.heap.size) :
    Nst w0 W' E nb pg vc (.slice (some ⟨g, 0, none⟩) n c) vc0 vo0 la (lo ++ [x]) a b sl := by
  have hs := hb.size
  refine ⟨h.blk.keptL h.oo (by decide) hk, h.oc.keptNe hk (fun g hg => h.ne g hg), ho, ?_, (hk.cell h.plt h.po).trans h.p0, (hk.cell h.plt h.po).trans h.p1, h.pc, ?_, by have := h.plt; omega, by have := h.hE; omega, h.b0.trans hb, h.hnb⟩
  · intro z hz e
    rw [own_some] at e
    injection e with e
    subst e
    rcases hg with hg | hg
    · exact h.ne _ hz hg
    · have := (h.oc.lt _ hz).2; omega
  · rw [own_some]
    intro e
    injection e with e
    subst e
    rcases hg with hg | hg
    · exact h.po hg
    · have := h.plt; omega
/-- The phrase under way between two pairs. -/
structure NrAt (W : World) (E nb : Nat) (vc vo : Value) (l : List (Int × Int)) (sl : Int) : Prop where
  blk : Blk W nb 68 #[vc, vo, .int .i64 sl]
  oc : OwnL intS W E vc (l.map (·.1))
  oo : OwnL intS W E vo (l.map (·.2))
  ne : ∀ g, vc.ownBlock = some g → vo.ownBlock ≠ some g
  hE : E ≤ W.heap.size
theorem NrAt.below {W W' : World} {E nb : Nat} {vc vo : Value} {l : List (Int × Int)} {sl : Int} (h : NrAt W E nb vc vo l sl) (hb : Below W.heap.size W W') : NrAt W' E nb vc vo l sl :=
  ⟨h.blk.belowW hb, h.oc.below hb, h.oo.below hb, h.ne, Nat.le_trans h.hE hb.size⟩
theorem NrAt.nst {l : List (Int × Int)} {B2 : Nat} (h : NrAt W E nb vc vo l sl) (h0 : Below E w0 W) (hnb : E ≤ nb) (hb : Below W.heap.size W W') (hB : W.heap.size ≤ B2) {g c : Nat} (hp : OwnL intS W' B2 (.slice (some ⟨g, 0, none⟩) 2 c) [a, b]) : Nst w0 W' E nb g vc vo vc vo (l.map (·.1)) (l.map (·.2)) a b sl := by
  have hlt := hp.lt g rfl
  have hc := fun j u => hp.cells (g := g) rfl j u
  refine ⟨h.blk.belowW hb, h.oc.below hb, h.oo.below hb, h.ne, hc 0 _ rfl, hc 1 _ rfl, fun e => ?_, fun e => ?_, hlt.2, Nat.le_trans h.hE hb.size, h0.trans (hb.mono h.hE), hnb⟩
  · have := (h.oc.lt _ e).2; omega
  · have := (h.oo.lt _ e).2; omega
theorem Nst.facts (h : Nst w0 W E nb pg vc vo vc0 vo0 la lo a b sl) : W.cell? ⟨nb, 0, none⟩ = some vc0 ∧ W.cell? ⟨nb, 1, none⟩ = some vo0 ∧ W.cell? ⟨pg, 0, none⟩ = some (.int .i64 a) ∧ W.cell? ⟨pg, 1, none⟩ = some (.int .i64 b) ∧ nb < W.heap.size ∧ pg < W.heap.size ∧ W.frozen? ⟨nb, 0, none⟩ = false ∧ W.frozen? ⟨nb, 1, none⟩ = false :=
  ⟨h.blk.cell 0, h.blk.cell 1, h.p0, h.p1, h.blk.lt, h.plt, h.blk.frozen 0, h.blk.frozen 1⟩
theorem intcell {w : World} {nb : Nat} {x : Int} (h : w.cell? ⟨nb, 0, none⟩ = some (.int .i64 x)) : ∀ j u, (intS.enc x)[j]? = some u → w.cell? ⟨nb, j, none⟩ = some u := by
  intro j u hj
  match j with
  | 0 => simp only [intS, List.getElem?_cons_zero] at hj; rw [← hj]; exact h
  | j + 1 => simp [intS] at hj
theorem Nst.done {l : List (Int × Int)} (h : Nst w0 W E nb pg vc vo vc0 vo0 (l.map (·.1) ++ [a]) (l.map (·.2) ++ [b]) a b sl) : NrAt ((W.setCell ⟨nb, 0, none⟩ vc).setCell ⟨nb, 1, none⟩ vo) E nb vc vo (l ++ [(a, b)]) sl := by
  have e1 : (l ++ [(a, b)]).map (·.1) = l.map (·.1) ++ [a] := by simp
  have e2 : (l ++ [(a, b)]).map (·.2) = l.map (·.2) ++ [b] := by simp
  have hb1 := h.blk.set_ 0 vc
  have g1 := h.oc.farNe (h.oc.offBlk h.blk (by decide)) (p := ⟨nb, 0, none⟩) vc
  have g2 := h.oo.farNe (h.oo.offBlk h.blk (by decide)) (p := ⟨nb, 0, none⟩) vc
  refine ⟨hb1.set_ 1 vo, ?_, ?_, h.ne, by rw [set_size, set_size]; exact h.hE⟩
  · rw [e1]; exact g1.farNe (g1.offBlk hb1 (by decide)) _
  · rw [e2]; exact g2.farNe (g2.offBlk hb1 (by decide)) _
end
theorem nrcell {w : World} {nb : Nat} {x : NrV} (h0 : w.cell? ⟨nb, 0, none⟩ = some (.slice x.ca x.n.cur.length x.cc)) (h1 : w.cell? ⟨nb, 1, none⟩ = some (.slice x.oa x.n.off.length x.oc)) (h2 : w.cell? ⟨nb, 2, none⟩ = some (.int .i64 x.n.slop)) : ∀ j u, (nrS.enc x)[j]? = some u → w.cell? ⟨nb, j, none⟩ = some u := by
  intro j u hj
  match j with
  | 0 => simp only [nrS, List.getElem?_cons_zero] at hj; rw [← hj]; exact h0
  | 1 => simp only [nrS, List.getElem?_cons_succ, List.getElem?_cons_zero] at hj; rw [← hj]; exact h1
  | 2 => simp only [nrS, List.getElem?_cons_succ, List.getElem?_cons_zero] at hj; rw [← hj]; exact h2
  | j + 3 => simp [nrS] at hj
theorem RdrAt.nearKept {w w' : World} {B rb mb : Nat} {x : RdrV} {st : Rs} (h : RdrAt w B rb mb x st) (hk : KeptBut w w' x.nv) : w'.cell? ⟨rb, 2, none⟩ = some x.nv ∧ w'.frozen? ⟨rb, 2, none⟩ = false :=
  ⟨(h.blk.keptL h.nears (by decide) hk).cell 2, (h.blk.keptL h.nears (by decide) hk).frozen 2⟩
theorem RdrAt.alloc {w : World} {B rb mb : Nat} {x : RdrV} {st : Rs} (h : RdrAt w B rb mb x st) (o : Obj) : RdrAt (w.alloc o) B rb mb x st := h.below ((Below.refl _ _).alloc (Nat.le_refl _) _)
theorem RdL.tail1 {w : World} {C : Nat} {a : Addr} {x : ByteArray} {l : List ByteArray} {n : Nat} (h : RdL strS w C (.slice (some a) n 1) (x :: l)) : RdL strS w C (.slice (some a) l.length 0) l := by
  obtain ⟨A0, c0, he, hc1, hc2, h3, h4⟩ := h
  injection he with e1 e2 e3
  subst e1 e3
  rw [List.length_cons] at hc1
  have : l = [] := List.eq_nil_of_length_eq_zero (by omega)
  subst this
  exact ⟨some a, 0, rfl, Nat.le_refl _, by unfold maxLen; omega, fun h => absurd h (by simp), fun h => by cases h⟩
theorem RdL.tail2 {w : World} {C : Nat} {a : Addr} {x : ByteArray} {l : List ByteArray} {n cap : Nat} (h : RdL strS w C (.slice (some a) n cap) (x :: l)) : RdL strS w C (.slice (some ⟨a.block, a.off + 1, none⟩) l.length (cap - 1)) l := by
  obtain ⟨A0, c0, he, hc1, hc2, h3, h4⟩ := h
  injection he with e1 e2 e3
  subst e1 e3
  rw [List.length_cons] at hc1
  refine ⟨_, cap - 1, rfl, by omega, by omega, fun hl => ⟨_, rfl, ?_, ?_⟩, fun h => by cases h⟩
  · obtain ⟨a', e, hb, _⟩ := h3 (by simp)
    injection e with e
    subst e; exact hb
  · intro j u hj
    obtain ⟨a', e, _, hc⟩ := h3 (by simp)
    injection e with e
    subst e
    have := hc (j + 1) u (by
      rw [show strS.cells (x :: l) = strS.enc x ++ strS.cells l from rfl]
      exact hj)
    rw [← addr_one, add_of_add, Nat.add_comm 1 j]
    exact this
theorem rd_two (w : World) (p q : List UInt8) : RdL strS (w.alloc (.cells #[.string (str p), .string (str q)] 9)) (w.alloc (.cells #[.string (str p), .string (str q)] 9)).heap.size (.slice (some ⟨w.heap.size, 0, none⟩) 2 2) ([p, q].map str) := by
  refine ⟨_, 2, rfl, Nat.le_refl _, by unfold maxLen; omega, fun _ => ⟨_, rfl, by rw [World.size_alloc]; exact Nat.lt_succ_self _, ?_⟩, fun h => by cases h⟩
  intro j u hj
  have e : (⟨w.heap.size, 0, none⟩ : Addr).add j = ⟨w.heap.size, j, none⟩ := by unfold Addr.add; split <;> simp_all
  rw [e, World.cell?_alloc_new]
  have e2 : strS.cells ([p, q].map str) = [.string (str p), .string (str q)] := rfl
  rw [e2] at hj
  simpa using hj
theorem intsL_two {p q : List UInt8} {l : List Int} (h : intsL [p, q] = some l) : ∃ a b, l = [a, b] := by
  unfold intsL at h
  split at h
  · cases h
  · unfold intsL at h
    split at h
    · cases h
    · rename_i v hv u hu
      simp only [intsL, Option.map_some] at h
      injection h with h
      exact ⟨_, _, h.symm⟩
theorem pPairs_yes {x : List UInt8} {r : List (List UInt8)} {a b : Int} (h : intsL [(cutL 43 x).1, (cutL 43 x).2.1] = some [a, b]) : pPairs (x :: r) = (pPairs r).map ((a, b) :: ·) := by
  rw [pPairs, cutS_cutL]
  unfold intsL at h
  cases h1 : wholeL 9223372036854775808 (cutL 43 x).1 with
  | none => rw [h1] at h; cases h
  | some v =>
    rw [h1] at h
    unfold intsL at h
    cases h2 : wholeL 9223372036854775808 (cutL 43 x).2.1 with
    | none => rw [h2] at h; cases h
    | some u =>
      rw [h2] at h
      simp only [intsL, Option.map_some] at h
      injection h with h
      injection h with e1 h
      injection h with e2 _
      subst e1; subst e2; rfl
theorem pPairs_no {x : List UInt8} {r : List (List UInt8)} (h : intsL [(cutL 43 x).1, (cutL 43 x).2.1] = none) : pPairs (x :: r) = none := by
  rw [pPairs, cutS_cutL]
  unfold intsL at h
  cases h1 : wholeL 9223372036854775808 (cutL 43 x).1 with
  | none => rfl
  | some v =>
    rw [h1] at h
    unfold intsL at h
    cases h2 : wholeL 9223372036854775808 (cutL 43 x).2.1 with
    | none => rfl
    | some u =>
      rw [h2] at h
      simp [intsL] at h
end Go.Proofs.YtmdpfikalekmlaaGreatDoor
/- Layer 20: the reader's near. -/
namespace Go.Proofs.YtmdpfikalekmlaaGreatDoor
open Go.RowKit
set_option maxRecDepth 100000
set_option maxHeartbeats 40000000
set_option linter.unusedSimpArgs false
set_option linter.unusedVariables false

def pNearR (w : List UInt8) (ws : List (List UInt8)) : Option Nr := match wholeL 9223372036854775808 w, pPairs ws with
  | some k, some l => some ⟨(k : Int), l.map (·.1), l.map (·.2)⟩
  | _, _ => none
def NrRel (ws : List (List UInt8)) (w : World) (nb : Nat) (sl : Int) (iv : Value) (wr : World) : Prop :=
  ∃ (k : Nat) (l : List (Int × Int)) (vc vo : Value), k ≤ ws.length ∧ iv = .int .i64 (k : Int) ∧ l.length ≤ k ∧ NrAt wr w.heap.size nb vc vo l sl ∧ Below w.heap.size w wr ∧ pPairs ws = (pPairs (ws.drop k)).map (l ++ ·)
theorem near_any (A : Option Addr) (n cap : Nat) (w0 : List UInt8) (ws : List (List UInt8)) (w : World) (C B rb mb : Nat) (hw : RdL strS w C (.slice A n cap) ((w0 :: ws).map str)) (hC : C ≤ w.heap.size) (x : RdrV) (st : Rs) (h : RdrAt w B rb mb x st) (hn : st.nears.length ≤ 1000000000) (hsz0 : w0.length ≤ 1000000000) (hsz : ∀ x ∈ ws, x.length ≤ 1000000000) (hlen : ws.length ≤ 1000000001) (hE : PuEnv w) :
    Calls Tryz.prog 47 #[.pointer (some ⟨rb, 0, none⟩), .slice A n cap] w (LnRet B rb mb w ((pNearR w0 ws).map fun n => { st with nears := st.nears ++ [n] })) := by
  obtain ⟨A0, c0, he, hc1, hc2⟩ := hw.open_
  injection he with e1 e2 e3
  subst e1 e3
  rw [List.length_map, List.length_cons] at e2 hc1
  subst e2
  unfold maxLen at hc2
  obtain ⟨a, rfl, hab, c0⟩ := at_word (k := 0) hw (by simp)
  simp only [List.getElem_cons_zero, addr_zero] at c0
  have H := Lib.hid h; have HE := Lib.hid hE; have HSZ := Lib.hid hsz; have HW := Lib.hid hw
  have hI := whole63_any (str w0) (by rw [str_size]; exact hsz0) w hE
  rw [str_data] at hI
  clear h hE hsz hw
  cases hv : wholeL 9223372036854775808 w0 with
  | none =>
    have HN := Lib.hid (show pNearR w0 ws = none from by unfold pNearR; rw [hv])
    have HV := Lib.hid hv
    clear hv
    go_enter Tryz.func47, Tryz.ntmps47
    go_wp2_with fail
    refine hI.mono ?_
    rintro e w1 ⟨⟨v, hv0, hv1, rfl, -⟩, hb1⟩
    rw [HV.out]
    have HB1 := Lib.hid (RKeep.ofW (rb := rb) H.out.hB hb1)
    clear hb1 hI
    go_wp2
    go_ret
    exact LnRet.bad HB1.out (by rw [HN.out]; rfl) rfl
  | some sl =>
    have HV := Lib.hid hv
    have hsl := wholeL_lt hv
    have HNX := Lib.hid (show pNearR w0 ws = (pPairs ws).map fun l => ⟨(sl : Int), l.map (·.1), l.map (·.2)⟩ from by
      unfold pNearR; rw [hv]
      cases pPairs ws <;> rfl)
    clear hv
    by_cases hcap : cap = 1
    · subst hcap
      obtain rfl : ws = [] := List.eq_nil_of_length_eq_zero (by omega)
      have HT := Lib.hid (RdL.tail1 HW.out)
      rw [List.length_map] at HT
      go_enter Tryz.func47, Tryz.ntmps47
      go_wp2_with fail
      refine hI.mono ?_
      rintro e w1 ⟨⟨v, -, -, rfl, hvv⟩, hb1⟩
      obtain rfl := hvv sl HV.out
      rw [HV.out]
      have HB1 := Lib.hid hb1
      have hbs := hb1.size
      clear hb1 hI hvv
      go_wp2
      go_loopw [30] (fun iv wr => NrRel [] w w1.heap.size (sl : Int) iv wr) (fun iv _ => ([] : List (List UInt8)).length - (intOf iv).toNat)
      case atStart => exact ⟨0, [], .slice none 0 0, .slice none 0 0, Nat.zero_le _, rfl, Nat.le_refl _, ⟨Blk.new _ _ _, OwnL.nil _ _ _, OwnL.nil _ _ _, (fun g hg => by cases hg), by rw [World.size_alloc]; omega⟩, HB1.out.alloc HB1.out.size _, by simp⟩
      case round =>
        obtain ⟨k, l, vc, vo, hk, rfl, hll, hna, hb, hu⟩ := hrel
        have HNA := Lib.hid hna; have HB := Lib.hid hb; have HU := Lib.hid hu
        have hBr := hb.size
        clear hna hb hu
        by_cases hlt : k < ([] : List (List UInt8)).length
        · exact absurd hlt (by simp)
        · obtain ⟨cA, cc, hvc, -, -, -⟩ := HNA.out.oc.open_
          obtain ⟨oA, oc, hvo, -, -, -⟩ := HNA.out.oo.open_
          rw [List.length_map] at hvc hvo
          subst hvc hvo
          have HN := Lib.hid (show pPairs [] = some l from by
            rw [HU.out, List.drop_eq_nil_of_le (by omega)]
            simp [pPairs])
          have HRr := Lib.hid (H.out.below HB.out)
          have q0 := HNA.out.blk.cell 0
          have q1 := HNA.out.blk.cell 1
          have q2 := HNA.out.blk.cell 2
          simp only [List.getElem?_toArray, List.getElem?_cons_zero, List.getElem?_cons_succ] at q0 q1 q2
          have hib := HNA.out.blk.lt
          have r2 : wr.cell? ⟨rb, 2, none⟩ = some x.nv := HRr.out.blk.cell 2
          have hrl := HRr.out.blk.lt
          have hxl : x.nl.length = st.nears.length := by rw [← H.out.nmap, List.length_map]
          have HL := Lib.hid (show x.nl.length + 1 ≤ 970000000000 by omega)
          have HKB := Lib.hid (RKeep.ofW (rb := rb) H.out.hB HB.out)
          have HO1 := Lib.hid (show OwnL intS wr B (.slice cA (l.map (·.1)).length cc) (l.map (·.1)) from by rw [List.length_map]; exact OwnL.more HNA.out.oc H.out.hB)
          have HO2 := Lib.hid (show OwnL intS wr B (.slice oA (l.map (·.2)).length oc) (l.map (·.2)) from by rw [List.length_map]; exact OwnL.more HNA.out.oo H.out.hB)
          have HO1b := Lib.hid (show OwnL intS wr w.heap.size (.slice cA (l.map (·.1)).length cc) (l.map (·.1)) from by rw [List.length_map]; exact HNA.out.oc)
          have HO2b := Lib.hid (show OwnL intS wr w.heap.size (.slice oA (l.map (·.2)).length oc) (l.map (·.2)) from by rw [List.length_map]; exact HNA.out.oo)
          have HNEb := Lib.hid (show FarV (.slice cA (l.map (·.1)).length cc) (.slice oA (l.map (·.2)).length oc) from by rw [List.length_map, List.length_map]; exact HNA.out.ne)
          have HAP := Lib.hid (show Apart x.av x.dv (x.nl ++ [NrV.mk cA cc oA oc ⟨(sl : Int), l.map (·.1), l.map (·.2)⟩]) from H.out.apart.near _ (H.out.far HO1b.out (Nat.le_refl _)) (H.out.far HO2b.out (Nat.le_refl _)) HNEb.out)
          clear hxl
          go_wp2
          go_region_law (first
            | ((with_reducible refine OwnL.stepAppendG nrSOk (B := B) (v := x.nv) (l := x.nl) (RdrAt.nears (B := B) (rb := rb) (mb := mb) (x := x) (st := st) (by (repeat (first | exact HRr.out | with_reducible refine RdrAt.drew ?_ | with_reducible refine RdrAt.alloc ?_ _)); done)) (NrV.mk cA cc oA oc ⟨(sl : Int), l.map (·.1), l.map (·.2)⟩) _ rfl _ _ rfl rfl rfl (by refine nrcell ?_ ?_ ?_ <;> simp [World.cell?_alloc_new]) (RdrAt.hB (B := B) (rb := rb) (mb := mb) (x := x) (st := st) (by (repeat (first | exact HRr.out | with_reducible refine RdrAt.drew ?_ | with_reducible refine RdrAt.alloc ?_ _)); done)) HL.out (fun g6 c6 w6 h2 h3 h3k h4 h5 => ?_)); (have hR6 := (RdrAt.pushNear (B := B) (rb := rb) (mb := mb) (x := x) (st := st) (by (repeat (first | exact HRr.out | with_reducible refine RdrAt.drew ?_ | with_reducible refine RdrAt.alloc ?_ _)); done) (NrV.mk cA cc oA oc ⟨(sl : Int), l.map (·.1), l.map (·.2)⟩) (by have h := HO1.out; exact (h.alloc _).drew) (by have h := HO2.out; exact (h.alloc _).drew) h2 h3 h3k HAP.out)); (have hK6 := HKB.out.grow1 HRr.out.hB h3); (obtain ⟨m6, m7⟩ := (RdrAt.nearKept (B := B) (rb := rb) (mb := mb) (x := x) (st := st) (by (repeat (first | exact HRr.out | with_reducible refine RdrAt.drew ?_ | with_reducible refine RdrAt.alloc ?_ _)); done) h3k)); clear h2 h3 h3k h4))
          all_goals
            have HR6 := Lib.hid hR6
            have HK6 := Lib.hid ((hK6).trans (RKeep.set_ B rb 2 _ (.slice (some ⟨g6, 0, none⟩) (x.nl.length + 1) c6)))
            clear hR6 hK6
            go_wp2
            go_ret
            exact LnRet.good HK6.out (by rw [HNX.out, HN.out]; rfl) rfl HR6.out
    · have HT := Lib.hid (RdL.tail2 HW.out)
      rw [List.length_map] at HT
      go_enter Tryz.func47, Tryz.ntmps47
      go_wp2_with fail
      refine hI.mono ?_
      rintro e w1 ⟨⟨v, -, -, rfl, hvv⟩, hb1⟩
      obtain rfl := hvv sl HV.out
      rw [HV.out]
      have HB1 := Lib.hid hb1
      have hbs := hb1.size
      clear hb1 hI hvv
      go_wp2
      go_loopw [30] (fun iv wr => NrRel ws w w1.heap.size (sl : Int) iv wr) (fun iv _ => ws.length - (intOf iv).toNat)
      case atStart => exact ⟨0, [], .slice none 0 0, .slice none 0 0, Nat.zero_le _, rfl, Nat.le_refl _, ⟨Blk.new _ _ _, OwnL.nil _ _ _, OwnL.nil _ _ _, (fun g hg => by cases hg), by rw [World.size_alloc]; omega⟩, HB1.out.alloc HB1.out.size _, by simp⟩
      case round =>
        obtain ⟨k, l, vc, vo, hk, rfl, hll, hna, hb, hu⟩ := hrel
        have HNA := Lib.hid hna; have HB := Lib.hid hb; have HU := Lib.hid hu
        have hBr := hb.size
        clear hna hb hu
        by_cases hlt : k < ws.length
        · obtain ⟨a2, he2, hab2, c2⟩ := at_word (HT.out.below (HB.out.mono hC)) hlt
          injection he2 with he2
          subst he2
          rw [Addr.add_lit] at c2
          have hxs : ws[k].length ≤ 1000000000 := HSZ.out _ (List.getElem_mem hlt)
          have hdk : ws.drop k = ws[k] :: ws.drop (k + 1) := List.drop_eq_getElem_cons hlt
          have hcut := cutB_any (str ws[k]) 43 wr (by rw [str_size]; omega)
          rw [str_data] at hcut
          have hcl := cutL_len 43 ws[k]
          have F1 := Lib.hid (fun r a b => @pPairs_yes ws[k] r a b)
          have F2 := Lib.hid (fun r => @pPairs_no ws[k] r)
          have HDK := Lib.hid hdk
          clear hdk
          generalize ws[k] = y at *
          generalize (cutL 43 y).1 = p at *
          generalize (cutL 43 y).2.1 = q at *
          generalize (cutL 43 y).2.2 = fd at *
          have hp1 : p.length ≤ 1000000000 := by omega
          have hq1 : q.length ≤ 1000000000 := by omega
          clear hcl
          go_wp2_with fail
          refine hcut.mono ?_
          rintro e w2 ⟨rfl, hb2⟩
          have HB2 := Lib.hid hb2
          have hb2s := hb2.size
          clear hb2 hcut
          have hrd : RdL strS (w2.alloc (.cells #[.string (str p), .string (str q)] 9)) (w2.alloc (.cells #[.string (str p), .string (str q)] 9)).heap.size (.slice (some ⟨w2.heap.size, 0, none⟩) 2 2) ([p, q].map str) := rd_two w2 p q
          have hbA : Below wr.heap.size wr (w2.alloc (.cells #[.string (str p), .string (str q)] 9)) := HB2.out.alloc hb2s _
          have hIn := ints_any _ _ _ [p, q] (w2.alloc (.cells #[.string (str p), .string (str q)] 9)) _ hrd (Nat.le_refl _) (by
            intro x hx
            rcases List.mem_cons.1 hx with rfl | hx
            · exact hp1
            · obtain rfl := List.mem_singleton.1 hx; exact hq1) (by show 2 ≤ 1000000001; decide) (HE.out.belowW (HB.out.trans (hbA.mono hBr)))
          have HBA := Lib.hid hbA
          clear hrd hbA
          cases hi2 : intsL [p, q] with
          | none =>
            rw [hi2] at hIn
            have HN := Lib.hid (show pPairs ws = none from by rw [HU.out, HDK.out, F2.out _ hi2]; rfl)
            clear hi2
            go_wp2_with fail
            refine hIn.mono ?_
            rintro e w4 ⟨rfl, hb4⟩
            have HB4 := Lib.hid (RKeep.ofW (rb := rb) H.out.hB (HB.out.trans ((HBA.out.trans (hb4.mono HBA.out.size)).mono hBr)))
            clear hb4 hIn
            go_wp2
            go_ret
            exact LnRet.bad HB4.out (by rw [HNX.out, HN.out]; rfl) rfl
          | some l2 =>
            obtain ⟨pa, pb, rfl⟩ := intsL_two hi2
            rw [hi2] at hIn
            have HN := Lib.hid (show pPairs ws = (pPairs (ws.drop (k + 1))).map ((l ++ [(pa, pb)]) ++ ·) from by
              rw [HU.out, HDK.out, F1.out _ _ _ hi2, Option.map_map]
              congr 1
              funext z; simp)
            clear hi2
            go_wp2_with fail
            refine hIn.mono ?_
            rintro e w4 ⟨⟨pv, rfl, ho4⟩, hb4⟩
            obtain ⟨A4, c4, rfl, -, -, hcc⟩ := ho4.open_
            obtain ⟨g4, rfl, hg4, hg4b, hx0⟩ := hcc 0 0 (show 0 < 2 by omega) (show 0 < 1 by omega)
            have hbx := HBA.out.trans (hb4.mono HBA.out.size)
            have HS4 := Lib.hid (HNA.out.nst HB.out hbs hbx HBA.out.size ho4)
            have HB4 := Lib.hid (HB.out.trans (hbx.mono hBr))
            have HBW := Lib.hid hbx
            obtain ⟨n0, n1, n2, n3, n4, n5, n6, n7⟩ := HS4.out.facts
            have HL1 := Lib.hid (show (l.map (·.1)).length + 1 ≤ 970000000000 by rw [List.length_map]; omega)
            have HL2 := Lib.hid (show (l.map (·.2)).length + 1 ≤ 970000000000 by rw [List.length_map]; omega)
            have HVC := Lib.hid (fun z (hz : vc.ownBlock = some z) => (HS4.out.oc.lt z hz).2)
            have HVO := Lib.hid (fun z (hz : vo.ownBlock = some z) => (HS4.out.oo.lt z hz).2)
            have hgn : ¬ g4 = w1.heap.size := by have := HNA.out.blk.lt; have := HBA.out.size; omega
            have hgn2 : ¬ w1.heap.size = g4 := fun e => hgn e.symm
            clear hb4 hIn ho4 hcc hx0 hbx
            go_wp2_with fail
            refine ph_region (fun W' => W'.cell? ⟨w1.heap.size, 0, none⟩ = some vc ∧ W'.cell? ⟨w1.heap.size, 1, none⟩ = some vo ∧ W'.cell? ⟨g4, 0, none⟩ = some (.int .i64 pa) ∧ W'.cell? ⟨g4, 1, none⟩ = some (.int .i64 pb)) 15 (by kernel_rfl) ?_
            have hN := HS4.out.drew
            have hS0 : w4.drew.cell? ⟨w1.heap.size, 0, none⟩ = some vc ∧ w4.drew.cell? ⟨w1.heap.size, 1, none⟩ = some vo ∧ w4.drew.cell? ⟨g4, 0, none⟩ = some (.int .i64 pa) ∧ w4.drew.cell? ⟨g4, 1, none⟩ = some (.int .i64 pb) := ⟨hN.facts.1, hN.facts.2.1, hN.facts.2.2.1, hN.facts.2.2.2.1⟩
            have HN0 := Lib.hid hN
            clear hN n0 n1 n2 n3 n4 n5 n6 n7
            refine phAny_take (i := 0) (v := .pointer (some ⟨w1.heap.size, 0, none⟩)) [6, 1] rfl (by kernel_rfl) (fun _ _ _ h => h) (Or.inl ⟨by rfl, fun W1 hS1 => by obtain ⟨s0, s1, s2, s3⟩ := hS1; clear hS0; go_simp⟩) hS0 ?_
            simp only [Act.put, List.setIfInBounds_toArray, List.set_cons_zero, List.set_cons_succ]
            refine phAny_take (i := 1) (v := vc) [6] rfl (by kernel_rfl) (fun _ _ _ h => h) (Or.inl ⟨by rfl, fun W1 hS1 => by obtain ⟨s0, s1, s2, s3⟩ := hS1; clear hS0; go_simp⟩) hS0 ?_
            simp only [Act.put, List.setIfInBounds_toArray, List.set_cons_zero, List.set_cons_succ]
            refine phAny_take (i := 2) (v := .slice (some ⟨g4, 0, none⟩) 2 c4) [6, 5, 4, 3] rfl (by kernel_rfl) (fun _ _ _ h => h) (Or.inl ⟨by rfl, fun W1 hS1 => by obtain ⟨s0, s1, s2, s3⟩ := hS1; clear hS0; go_simp⟩) hS0 ?_
            simp only [Act.put, List.setIfInBounds_toArray, List.set_cons_zero, List.set_cons_succ]
            refine phAny_take (i := 3) (v := .pointer (some ⟨g4, 0, none⟩)) [6, 5, 4] rfl (by kernel_rfl) (fun _ _ _ h => h) (Or.inl ⟨by rfl, fun W1 hS1 => by obtain ⟨s0, s1, s2, s3⟩ := hS1; clear hS0; go_simp⟩) hS0 ?_
            simp only [Act.put, List.setIfInBounds_toArray, List.set_cons_zero, List.set_cons_succ]
            refine phAny_take (i := 4) (v := .int .i64 pa) [6, 5] rfl (by kernel_rfl) (fun _ _ _ h => h) (Or.inl ⟨by rfl, fun W1 hS1 => by obtain ⟨s0, s1, s2, s3⟩ := hS1; clear hS0; go_simp⟩) hS0 ?_
            simp only [Act.put, List.setIfInBounds_toArray, List.set_cons_zero, List.set_cons_succ]
            refine phAny_take (i := 7) (v := .pointer (some ⟨w1.heap.size, 1, none⟩)) [13, 8] rfl (by kernel_rfl) (fun _ _ _ h => h) (Or.inl ⟨by rfl, fun W1 hS1 => by obtain ⟨s0, s1, s2, s3⟩ := hS1; clear hS0; go_simp⟩) hS0 ?_
            simp only [Act.put, List.setIfInBounds_toArray, List.set_cons_zero, List.set_cons_succ]
            refine phAny_take (i := 8) (v := vo) [13] rfl (by kernel_rfl) (fun _ _ _ h => h) (Or.inl ⟨by rfl, fun W1 hS1 => by obtain ⟨s0, s1, s2, s3⟩ := hS1; clear hS0; go_simp⟩) hS0 ?_
            simp only [Act.put, List.setIfInBounds_toArray, List.set_cons_zero, List.set_cons_succ]
            refine phAny_take (i := 9) (v := .slice (some ⟨g4, 0, none⟩) 2 c4) [13, 12, 11, 10] rfl (by kernel_rfl) (fun _ _ _ h => h) (Or.inl ⟨by rfl, fun W1 hS1 => by obtain ⟨s0, s1, s2, s3⟩ := hS1; clear hS0; go_simp⟩) hS0 ?_
            simp only [Act.put, List.setIfInBounds_toArray, List.set_cons_zero, List.set_cons_succ]
            refine phAny_take (i := 10) (v := .pointer (some ⟨g4, 1, none⟩)) [13, 12, 11] rfl (by kernel_rfl) (fun _ _ _ h => h) (Or.inl ⟨by rfl, fun W1 hS1 => by obtain ⟨s0, s1, s2, s3⟩ := hS1; clear hS0; go_simp⟩) hS0 ?_
            simp only [Act.put, List.setIfInBounds_toArray, List.set_cons_zero, List.set_cons_succ]
            refine phAny_take (i := 11) (v := .int .i64 pb) [13, 12] rfl (by kernel_rfl) (fun _ _ _ h => h) (Or.inl ⟨by rfl, fun W1 hS1 => by obtain ⟨s0, s1, s2, s3⟩ := hS1; clear hS0; go_simp⟩) hS0 ?_
            simp only [Act.put, List.setIfInBounds_toArray, List.set_cons_zero, List.set_cons_succ]
            clear hS0
            refine phAny_ready (rs := [5, 12]) (by kernel_rfl) (by simp) ?_
            refine phAll.cons rfl (fun K hK => ?_) ?_
            · go_simp
              have HN0_5 := HN0.out.alloc (.cells #[.int .i64 pa] 3)
              have c5 : (w4.drew.alloc (.cells #[.int .i64 pa] 3)).cell? ⟨w4.heap.size, 0, none⟩ = some (.int .i64 pa) := alloc_cell0 (by simp)
              refine hK.out _ _ (fun _ => ⟨HN0_5.facts.1, HN0_5.facts.2.1, HN0_5.facts.2.2.1, HN0_5.facts.2.2.2.1⟩) ?_
              clear hK K
              try simp only [Act.put, List.setIfInBounds_toArray, List.set_cons_zero, List.set_cons_succ]
              refine phAny_ready (rs := [6, 12]) (by kernel_rfl) (by simp) ?_
              refine phAll.cons rfl (fun K hK => ?_) ?_
              · refine OwnL.stepAppendG intSOk (B := w.heap.size) (v := vc) (l := l.map (·.1)) HN0_5.oc pa _ rfl _ _ rfl rfl rfl (intcell c5) HN0_5.hE HL1.out (fun g6 c6 w6 h2 h3 h3k h4 h5 => ?_)
                have hsg6 := HN0_5.appC h2 h3 h3k h4
                refine hK.out _ _ (fun _ => ⟨hsg6.facts.1, hsg6.facts.2.1, hsg6.facts.2.2.1, hsg6.facts.2.2.2.1⟩) ?_
                clear hK K h2 h3 h3k h4
                try simp only [Act.put, List.setIfInBounds_toArray, List.set_cons_zero, List.set_cons_succ]
                refine phAny_pure (i := 14) (v := .pointer (some ⟨w1.heap.size, 0, none⟩)) rfl (by kernel_rfl) (fun _ _ _ h => h) (Or.inl ⟨by rfl, fun W1 _ => by go_simp⟩) (fun _ => ⟨hsg6.facts.1, hsg6.facts.2.1, hsg6.facts.2.2.1, hsg6.facts.2.2.2.1⟩) ?_
                try simp only [Act.put, List.setIfInBounds_toArray, List.set_cons_zero, List.set_cons_succ]
                refine phAny_ready (rs := [12]) (by kernel_rfl) (by simp) ?_
                refine phAll.cons rfl (fun K hK => ?_) ?_
                · go_simp
                  have HN2_12 := hsg6.alloc (.cells #[.int .i64 pb] 3)
                  have c12 : (w6.alloc (.cells #[.int .i64 pb] 3)).cell? ⟨w6.heap.size, 0, none⟩ = some (.int .i64 pb) := alloc_cell0 (by simp)
                  refine hK.out _ _ (fun _ => ⟨HN2_12.facts.1, HN2_12.facts.2.1, HN2_12.facts.2.2.1, HN2_12.facts.2.2.2.1⟩) ?_
                  clear hK K
                  try simp only [Act.put, List.setIfInBounds_toArray, List.set_cons_zero, List.set_cons_succ]
                  refine phAny_ready (rs := [13]) (by kernel_rfl) (by simp) ?_
                  refine phAll.cons rfl (fun K hK => ?_) ?_
                  · refine OwnL.stepAppendG intSOk (B := w.heap.size) (v := vo) (l := l.map (·.2)) HN2_12.oo pb _ rfl _ _ rfl rfl rfl (intcell c12) HN2_12.hE HL2.out (fun g7 c7 w7 h2 h3 h3k h4 h5 => ?_)
                    have hsg7 := HN2_12.appO h2 h3 h3k h4
                    have hE7 := hsg7.facts
                    refine hK.out _ _ (fun _ => ⟨hE7.1, hE7.2.1, hE7.2.2.1, hE7.2.2.2.1⟩) ?_
                    clear hK K h2 h3 h3k h4
                    try simp only [Act.put, List.setIfInBounds_toArray, List.set_cons_zero, List.set_cons_succ]
                    obtain ⟨m0, m1, m2, m3, m4, m5, m6, m7⟩ := hsg7.facts
                    refine phAny_ready (rs := [15]) (by kernel_rfl) (by simp) ?_
                    refine phAll.cons rfl (fun K hK => ?_) phAll.nil
                    go_simp
                    refine hK.out _ _ (fun h => nomatch (show true = false from h)) ?_
                    clear hK K
                    try simp only [Act.put, List.setIfInBounds_toArray, List.set_cons_zero, List.set_cons_succ]
                    refine phAny_pure (i := 16) (v := .pointer (some ⟨w1.heap.size, 1, none⟩)) rfl (by kernel_rfl) (fun _ _ _ h => h) (Or.inl ⟨by rfl, fun W1 _ => by go_simp⟩) (fun h => nomatch (show true = false from h)) ?_
                    simp only [Act.put, List.setIfInBounds_toArray, List.set_cons_zero, List.set_cons_succ]
                    refine phAny_ready (rs := [17]) (by kernel_rfl) (by simp) ?_
                    refine phAll.cons rfl (fun K hK => ?_) phAll.nil
                    go_simp
                    refine hK.out _ _ (fun h => nomatch (show true = false from h)) ?_
                    clear hK K
                    try simp only [Act.put, List.setIfInBounds_toArray, List.set_cons_zero, List.set_cons_succ]
                    refine phAny_done (by kernel_rfl) ?_ _
                    have hD := hsg7.done
                    have hBD := (hsg7.b0.setCell (p := ⟨w1.heap.size, 0, none⟩) hbs (.slice (some ⟨g6, 0, none⟩) ((l.map (·.1)).length + 1) c6)).setCell (p := ⟨w1.heap.size, 1, none⟩) hbs (.slice (some ⟨g7, 0, none⟩) ((l.map (·.2)).length + 1) c7)
                    simp only [List.length_map] at hD hBD
                    have HD := Lib.hid hD; have HBD := Lib.hid hBD
                    clear hD hBD
                    clear hsg7 hsg6
                    go_wp2
                    go_roundw
                    case rel => exact ⟨k + 1, l ++ [(pa, pb)], _, _, hlt, by go_num, by rw [List.length_append, List.length_singleton]; omega, HD.out, HBD.out, HN.out⟩
                    case measure => simp [intOf]; omega
                  exact phAll.nil
                exact phAll.nil
              refine phAll.cons rfl (fun K hK => ?_) ?_
              · go_simp
                have HN1_12 := HN0_5.alloc (.cells #[.int .i64 pb] 3)
                have c12 : ((w4.drew.alloc (.cells #[.int .i64 pa] 3)).alloc (.cells #[.int .i64 pb] 3)).cell? ⟨w4.heap.size + 1, 0, none⟩ = some (.int .i64 pb) := alloc_cell0 (by simp)
                have c5' : ((w4.drew.alloc (.cells #[.int .i64 pa] 3)).alloc (.cells #[.int .i64 pb] 3)).cell? ⟨w4.heap.size, 0, none⟩ = some (.int .i64 pa) := (World.cell?_alloc_lt _ _ _ (by simp)).trans c5
                refine hK.out _ _ (fun _ => ⟨HN1_12.facts.1, HN1_12.facts.2.1, HN1_12.facts.2.2.1, HN1_12.facts.2.2.2.1⟩) ?_
                clear hK K
                try simp only [Act.put, List.setIfInBounds_toArray, List.set_cons_zero, List.set_cons_succ]
                refine phAny_ready (rs := [6]) (by kernel_rfl) (by simp) ?_
                refine phAll.cons rfl (fun K hK => ?_) ?_
                · refine OwnL.stepAppendG intSOk (B := w.heap.size) (v := vc) (l := l.map (·.1)) HN1_12.oc pa _ rfl _ _ rfl rfl rfl (intcell c5') HN1_12.hE HL1.out (fun g6 c6 w6 h2 h3 h3k h4 h5 => ?_)
                  have hsg6 := HN1_12.appC h2 h3 h3k h4
                  have c12k : w6.cell? ⟨w4.heap.size + 1, 0, none⟩ = some (.int .i64 pb) := keptNew h3k HVC.out _ _ _ (by omega) c12
                  refine hK.out _ _ (fun _ => ⟨hsg6.facts.1, hsg6.facts.2.1, hsg6.facts.2.2.1, hsg6.facts.2.2.2.1⟩) ?_
                  clear hK K h2 h3 h3k h4
                  try simp only [Act.put, List.setIfInBounds_toArray, List.set_cons_zero, List.set_cons_succ]
                  refine phAny_pure (i := 14) (v := .pointer (some ⟨w1.heap.size, 0, none⟩)) rfl (by kernel_rfl) (fun _ _ _ h => h) (Or.inl ⟨by rfl, fun W1 _ => by go_simp⟩) (fun _ => ⟨hsg6.facts.1, hsg6.facts.2.1, hsg6.facts.2.2.1, hsg6.facts.2.2.2.1⟩) ?_
                  try simp only [Act.put, List.setIfInBounds_toArray, List.set_cons_zero, List.set_cons_succ]
                  refine phAny_ready (rs := [13]) (by kernel_rfl) (by simp) ?_
                  refine phAll.cons rfl (fun K hK => ?_) ?_
                  · refine OwnL.stepAppendG intSOk (B := w.heap.size) (v := vo) (l := l.map (·.2)) hsg6.oo pb _ rfl _ _ rfl rfl rfl (intcell c12k) hsg6.hE HL2.out (fun g7 c7 w7 h2 h3 h3k h4 h5 => ?_)
                    have hsg7 := hsg6.appO h2 h3 h3k h4
                    have hE7 := hsg7.facts
                    refine hK.out _ _ (fun _ => ⟨hE7.1, hE7.2.1, hE7.2.2.1, hE7.2.2.2.1⟩) ?_
                    clear hK K h2 h3 h3k h4
                    try simp only [Act.put, List.setIfInBounds_toArray, List.set_cons_zero, List.set_cons_succ]
                    obtain ⟨m0, m1, m2, m3, m4, m5, m6, m7⟩ := hsg7.facts
                    refine phAny_ready (rs := [15]) (by kernel_rfl) (by simp) ?_
                    refine phAll.cons rfl (fun K hK => ?_) phAll.nil
                    go_simp
                    refine hK.out _ _ (fun h => nomatch (show true = false from h)) ?_
                    clear hK K
                    try simp only [Act.put, List.setIfInBounds_toArray, List.set_cons_zero, List.set_cons_succ]
                    refine phAny_pure (i := 16) (v := .pointer (some ⟨w1.heap.size, 1, none⟩)) rfl (by kernel_rfl) (fun _ _ _ h => h) (Or.inl ⟨by rfl, fun W1 _ => by go_simp⟩) (fun h => nomatch (show true = false from h)) ?_
                    simp only [Act.put, List.setIfInBounds_toArray, List.set_cons_zero, List.set_cons_succ]
                    refine phAny_ready (rs := [17]) (by kernel_rfl) (by simp) ?_
                    refine phAll.cons rfl (fun K hK => ?_) phAll.nil
                    go_simp
                    refine hK.out _ _ (fun h => nomatch (show true = false from h)) ?_
                    clear hK K
                    try simp only [Act.put, List.setIfInBounds_toArray, List.set_cons_zero, List.set_cons_succ]
                    refine phAny_done (by kernel_rfl) ?_ _
                    have hD := hsg7.done
                    have hBD := (hsg7.b0.setCell (p := ⟨w1.heap.size, 0, none⟩) hbs (.slice (some ⟨g6, 0, none⟩) ((l.map (·.1)).length + 1) c6)).setCell (p := ⟨w1.heap.size, 1, none⟩) hbs (.slice (some ⟨g7, 0, none⟩) ((l.map (·.2)).length + 1) c7)
                    simp only [List.length_map] at hD hBD
                    have HD := Lib.hid hD; have HBD := Lib.hid hBD
                    clear hD hBD
                    clear hsg7 hsg6
                    go_wp2
                    go_roundw
                    case rel => exact ⟨k + 1, l ++ [(pa, pb)], _, _, hlt, by go_num, by rw [List.length_append, List.length_singleton]; omega, HD.out, HBD.out, HN.out⟩
                    case measure => simp [intOf]; omega
                  exact phAll.nil
                exact phAll.nil
              exact phAll.nil
            refine phAll.cons rfl (fun K hK => ?_) ?_
            · go_simp
              have HN0_12 := HN0.out.alloc (.cells #[.int .i64 pb] 3)
              have c12 : (w4.drew.alloc (.cells #[.int .i64 pb] 3)).cell? ⟨w4.heap.size, 0, none⟩ = some (.int .i64 pb) := alloc_cell0 (by simp)
              refine hK.out _ _ (fun _ => ⟨HN0_12.facts.1, HN0_12.facts.2.1, HN0_12.facts.2.2.1, HN0_12.facts.2.2.2.1⟩) ?_
              clear hK K
              try simp only [Act.put, List.setIfInBounds_toArray, List.set_cons_zero, List.set_cons_succ]
              refine phAny_ready (rs := [5]) (by kernel_rfl) (by simp) ?_
              refine phAll.cons rfl (fun K hK => ?_) ?_
              · go_simp
                have HN1_5 := HN0_12.alloc (.cells #[.int .i64 pa] 3)
                have c5 : ((w4.drew.alloc (.cells #[.int .i64 pb] 3)).alloc (.cells #[.int .i64 pa] 3)).cell? ⟨w4.heap.size + 1, 0, none⟩ = some (.int .i64 pa) := alloc_cell0 (by simp)
                have c12' : ((w4.drew.alloc (.cells #[.int .i64 pb] 3)).alloc (.cells #[.int .i64 pa] 3)).cell? ⟨w4.heap.size, 0, none⟩ = some (.int .i64 pb) := (World.cell?_alloc_lt _ _ _ (by simp)).trans c12
                refine hK.out _ _ (fun _ => ⟨HN1_5.facts.1, HN1_5.facts.2.1, HN1_5.facts.2.2.1, HN1_5.facts.2.2.2.1⟩) ?_
                clear hK K
                try simp only [Act.put, List.setIfInBounds_toArray, List.set_cons_zero, List.set_cons_succ]
                refine phAny_ready (rs := [6]) (by kernel_rfl) (by simp) ?_
                refine phAll.cons rfl (fun K hK => ?_) ?_
                · refine OwnL.stepAppendG intSOk (B := w.heap.size) (v := vc) (l := l.map (·.1)) HN1_5.oc pa _ rfl _ _ rfl rfl rfl (intcell c5) HN1_5.hE HL1.out (fun g6 c6 w6 h2 h3 h3k h4 h5 => ?_)
                  have hsg6 := HN1_5.appC h2 h3 h3k h4
                  have c12k : w6.cell? ⟨w4.heap.size, 0, none⟩ = some (.int .i64 pb) := keptNew h3k HVC.out _ _ _ (by omega) c12'
                  refine hK.out _ _ (fun _ => ⟨hsg6.facts.1, hsg6.facts.2.1, hsg6.facts.2.2.1, hsg6.facts.2.2.2.1⟩) ?_
                  clear hK K h2 h3 h3k h4
                  try simp only [Act.put, List.setIfInBounds_toArray, List.set_cons_zero, List.set_cons_succ]
                  refine phAny_pure (i := 14) (v := .pointer (some ⟨w1.heap.size, 0, none⟩)) rfl (by kernel_rfl) (fun _ _ _ h => h) (Or.inl ⟨by rfl, fun W1 _ => by go_simp⟩) (fun _ => ⟨hsg6.facts.1, hsg6.facts.2.1, hsg6.facts.2.2.1, hsg6.facts.2.2.2.1⟩) ?_
                  try simp only [Act.put, List.setIfInBounds_toArray, List.set_cons_zero, List.set_cons_succ]
                  refine phAny_ready (rs := [13]) (by kernel_rfl) (by simp) ?_
                  refine phAll.cons rfl (fun K hK => ?_) ?_
                  · refine OwnL.stepAppendG intSOk (B := w.heap.size) (v := vo) (l := l.map (·.2)) hsg6.oo pb _ rfl _ _ rfl rfl rfl (intcell c12k) hsg6.hE HL2.out (fun g7 c7 w7 h2 h3 h3k h4 h5 => ?_)
                    have hsg7 := hsg6.appO h2 h3 h3k h4
                    have hE7 := hsg7.facts
                    refine hK.out _ _ (fun _ => ⟨hE7.1, hE7.2.1, hE7.2.2.1, hE7.2.2.2.1⟩) ?_
                    clear hK K h2 h3 h3k h4
                    try simp only [Act.put, List.setIfInBounds_toArray, List.set_cons_zero, List.set_cons_succ]
                    obtain ⟨m0, m1, m2, m3, m4, m5, m6, m7⟩ := hsg7.facts
                    refine phAny_ready (rs := [15]) (by kernel_rfl) (by simp) ?_
                    refine phAll.cons rfl (fun K hK => ?_) phAll.nil
                    go_simp
                    refine hK.out _ _ (fun h => nomatch (show true = false from h)) ?_
                    clear hK K
                    try simp only [Act.put, List.setIfInBounds_toArray, List.set_cons_zero, List.set_cons_succ]
                    refine phAny_pure (i := 16) (v := .pointer (some ⟨w1.heap.size, 1, none⟩)) rfl (by kernel_rfl) (fun _ _ _ h => h) (Or.inl ⟨by rfl, fun W1 _ => by go_simp⟩) (fun h => nomatch (show true = false from h)) ?_
                    simp only [Act.put, List.setIfInBounds_toArray, List.set_cons_zero, List.set_cons_succ]
                    refine phAny_ready (rs := [17]) (by kernel_rfl) (by simp) ?_
                    refine phAll.cons rfl (fun K hK => ?_) phAll.nil
                    go_simp
                    refine hK.out _ _ (fun h => nomatch (show true = false from h)) ?_
                    clear hK K
                    try simp only [Act.put, List.setIfInBounds_toArray, List.set_cons_zero, List.set_cons_succ]
                    refine phAny_done (by kernel_rfl) ?_ _
                    have hD := hsg7.done
                    have hBD := (hsg7.b0.setCell (p := ⟨w1.heap.size, 0, none⟩) hbs (.slice (some ⟨g6, 0, none⟩) ((l.map (·.1)).length + 1) c6)).setCell (p := ⟨w1.heap.size, 1, none⟩) hbs (.slice (some ⟨g7, 0, none⟩) ((l.map (·.2)).length + 1) c7)
                    simp only [List.length_map] at hD hBD
                    have HD := Lib.hid hD; have HBD := Lib.hid hBD
                    clear hD hBD
                    clear hsg7 hsg6
                    go_wp2
                    go_roundw
                    case rel => exact ⟨k + 1, l ++ [(pa, pb)], _, _, hlt, by go_num, by rw [List.length_append, List.length_singleton]; omega, HD.out, HBD.out, HN.out⟩
                    case measure => simp [intOf]; omega
                  exact phAll.nil
                exact phAll.nil
              exact phAll.nil
            exact phAll.nil
        · obtain ⟨cA, cc, hvc, -, -, -⟩ := HNA.out.oc.open_
          obtain ⟨oA, oc, hvo, -, -, -⟩ := HNA.out.oo.open_
          rw [List.length_map] at hvc hvo
          subst hvc hvo
          have HN := Lib.hid (show pPairs ws = some l from by
            rw [HU.out, List.drop_eq_nil_of_le (by omega)]
            simp [pPairs])
          have HRr := Lib.hid (H.out.below HB.out)
          have q0 := HNA.out.blk.cell 0
          have q1 := HNA.out.blk.cell 1
          have q2 := HNA.out.blk.cell 2
          simp only [List.getElem?_toArray, List.getElem?_cons_zero, List.getElem?_cons_succ] at q0 q1 q2
          have hib := HNA.out.blk.lt
          have r2 : wr.cell? ⟨rb, 2, none⟩ = some x.nv := HRr.out.blk.cell 2
          have hrl := HRr.out.blk.lt
          have hxl : x.nl.length = st.nears.length := by rw [← H.out.nmap, List.length_map]
          have HL := Lib.hid (show x.nl.length + 1 ≤ 970000000000 by omega)
          have HKB := Lib.hid (RKeep.ofW (rb := rb) H.out.hB HB.out)
          have HO1 := Lib.hid (show OwnL intS wr B (.slice cA (l.map (·.1)).length cc) (l.map (·.1)) from by rw [List.length_map]; exact OwnL.more HNA.out.oc H.out.hB)
          have HO2 := Lib.hid (show OwnL intS wr B (.slice oA (l.map (·.2)).length oc) (l.map (·.2)) from by rw [List.length_map]; exact OwnL.more HNA.out.oo H.out.hB)
          have HO1b := Lib.hid (show OwnL intS wr w.heap.size (.slice cA (l.map (·.1)).length cc) (l.map (·.1)) from by rw [List.length_map]; exact HNA.out.oc)
          have HO2b := Lib.hid (show OwnL intS wr w.heap.size (.slice oA (l.map (·.2)).length oc) (l.map (·.2)) from by rw [List.length_map]; exact HNA.out.oo)
          have HNEb := Lib.hid (show FarV (.slice cA (l.map (·.1)).length cc) (.slice oA (l.map (·.2)).length oc) from by rw [List.length_map, List.length_map]; exact HNA.out.ne)
          have HAP := Lib.hid (show Apart x.av x.dv (x.nl ++ [NrV.mk cA cc oA oc ⟨(sl : Int), l.map (·.1), l.map (·.2)⟩]) from H.out.apart.near _ (H.out.far HO1b.out (Nat.le_refl _)) (H.out.far HO2b.out (Nat.le_refl _)) HNEb.out)
          clear hxl
          go_wp2
          go_region_law (first
            | ((with_reducible refine OwnL.stepAppendG nrSOk (B := B) (v := x.nv) (l := x.nl) (RdrAt.nears (B := B) (rb := rb) (mb := mb) (x := x) (st := st) (by (repeat (first | exact HRr.out | with_reducible refine RdrAt.drew ?_ | with_reducible refine RdrAt.alloc ?_ _)); done)) (NrV.mk cA cc oA oc ⟨(sl : Int), l.map (·.1), l.map (·.2)⟩) _ rfl _ _ rfl rfl rfl (by refine nrcell ?_ ?_ ?_ <;> simp [World.cell?_alloc_new]) (RdrAt.hB (B := B) (rb := rb) (mb := mb) (x := x) (st := st) (by (repeat (first | exact HRr.out | with_reducible refine RdrAt.drew ?_ | with_reducible refine RdrAt.alloc ?_ _)); done)) HL.out (fun g6 c6 w6 h2 h3 h3k h4 h5 => ?_)); (have hR6 := (RdrAt.pushNear (B := B) (rb := rb) (mb := mb) (x := x) (st := st) (by (repeat (first | exact HRr.out | with_reducible refine RdrAt.drew ?_ | with_reducible refine RdrAt.alloc ?_ _)); done) (NrV.mk cA cc oA oc ⟨(sl : Int), l.map (·.1), l.map (·.2)⟩) (by have h := HO1.out; exact (h.alloc _).drew) (by have h := HO2.out; exact (h.alloc _).drew) h2 h3 h3k HAP.out)); (have hK6 := HKB.out.grow1 HRr.out.hB h3); (obtain ⟨m6, m7⟩ := (RdrAt.nearKept (B := B) (rb := rb) (mb := mb) (x := x) (st := st) (by (repeat (first | exact HRr.out | with_reducible refine RdrAt.drew ?_ | with_reducible refine RdrAt.alloc ?_ _)); done) h3k)); clear h2 h3 h3k h4))
          all_goals
            have HR6 := Lib.hid hR6
            have HK6 := Lib.hid ((hK6).trans (RKeep.set_ B rb 2 _ (.slice (some ⟨g6, 0, none⟩) (x.nl.length + 1) c6)))
            clear hR6 hK6
            go_wp2
            go_ret
            exact LnRet.good HK6.out (by rw [HNX.out, HN.out]; rfl) rfl HR6.out
end Go.Proofs.YtmdpfikalekmlaaGreatDoor
end
section
/- Layer 20: the reader's instr. -/
namespace Go.Proofs.YtmdpfikalekmlaaGreatDoor
open Go.RowKit Go.Maps
set_option maxRecDepth 100000
set_option maxHeartbeats 4000000
set_option linter.unusedSimpArgs false
set_option linter.unusedVariables false

theorem MapSI.run {w : World} {b n : Nat} {m : List UInt8 → Option Int} (h : MapSI w b n m) (key : ByteArray) (hs : key.size ≤ maxLen) :
    (Instr.lookup 55 (.map (some b)) (.string key) true).run Tryz.prog w = .ok (.tuple #[.int .i64 ((m key.data.toList).getD 0), .bool (m key.data.toList).isSome]) w := by
  obtain ⟨D, hown, hk⟩ := h
  obtain ⟨v, ps, hrun, hv⟩ := hown.look_ok lawStr Tryz.underlying55 (zeroInt w) (plainElem_int Tryz.underlying3 (by decide)) (keyStr key hs)
  obtain ⟨c, rfl, hc, hwc⟩ := plainElem_int_inv Tryz.underlying3 hv
  obtain ⟨h1, h2⟩ := hk key.data.toList
  simp only [Prod.mk.injEq] at hc
  rw [hrun, h1]
  cases hm : m key.data.toList with
  | none =>
    rw [hm] at h1
    have := atKey_of_not_has (z := (.lit (.int .i64 0) : DataW Unit)) h1
    rw [this] at hc
    have hc1 := hc.1
    injection hc1 with hc1
    injection hc1 with _ hc1
    subst hc1; rfl
  | some z =>
    rw [h2 z hm] at hc
    have hc1 := hc.1
    injection hc1 with hc1
    injection hc1 with _ hc1
    subst hc1; rfl
def insPto : List (List UInt8) → Option (Nat × Nat)
  | [] => some (0, 0)
  | [a] => (wholeL top64 a).map fun v => (v, 0)
  | [a, b] => match wholeL top64 a, wholeL top64 b with
    | some v, some u => some (v, u)
    | _, _ => none
  | _ => none
def pInsR (w : List UInt8) (ws : List (List UInt8)) : Option Ins := match opIdx w with
  | none => none
  | some i => if (ws.length : Int) = opArgs i then (insPto ws).map fun p => ⟨(i : Int), p.1, p.2⟩ else none
theorem pIns_pInsR {s w : List UInt8} {ws : List (List UInt8)} (h : splitS 32 s = w :: ws) : pIns s = pInsR w ws := by
  unfold pIns pInsR
  rw [h]
  simp only []
  cases opIdx w with
  | none => rfl
  | some i =>
    have ha := opArgs_bd i
    match ws with
    | [] => simp only [List.length_nil, insPto, Option.map_some]; by_cases h0 : opArgs i = 0 <;> simp [h0]; intro h1; exact absurd h1.symm h0
    | [a] => simp only [List.length_cons, List.length_nil, insPto]; by_cases h0 : opArgs i = 1 <;> simp [h0, Function.comp_def]; intro h1; exact absurd h1.symm h0
    | [a, b] =>
      simp only [List.length_cons, List.length_nil, insPto]
      by_cases h0 : opArgs i = 2
      · simp [h0]
        cases wholeL top64 a <;> cases wholeL top64 b <;> rfl
      · simp [h0]; intro h1; exact absurd h1.symm h0
    | _ :: _ :: _ :: r =>
      simp only [List.length_cons]
      rw [if_neg (by omega)]
theorem insPto_bad {ws : List (List UInt8)} {k : Nat} (hk : k < ws.length) (h2 : ws.length ≤ 2) (h : wholeL top64 ws[k] = none) : insPto ws = none := by
  match ws, hk, h2, h with
  | [a], hk, _, h =>
    have : k = 0 := by simp at hk; exact hk
    subst this
    simp only [List.getElem_cons_zero] at h
    simp [insPto, h]
  | [a, b], hk, _, h =>
    rcases (show k = 0 ∨ k = 1 by simp at hk; omega) with rfl | rfl
    · simp only [List.getElem_cons_zero] at h
      simp [insPto, h]
    · simp only [List.getElem_cons_succ, List.getElem_cons_zero] at h
      simp only [insPto, h]
      split
      · rename_i h2; cases h2
      · rfl
theorem insPto_zero {ws : List (List UInt8)} {k v va vb : Nat} (hk : k < ws.length) (h0 : k = 0) (h : wholeL top64 ws[k] = some v) (ht : insPto (ws.take k) = some (va, vb)) : insPto (ws.take (k + 1)) = some (v, vb) := by
  subst h0
  match ws, hk, h with
  | a :: r, _, h =>
    simp only [List.getElem_cons_zero] at h
    simp only [List.take_zero, insPto, Option.some.injEq, Prod.mk.injEq] at ht
    obtain ⟨_, rfl⟩ := ht
    simp [insPto, h]
theorem insPto_one {ws : List (List UInt8)} {k v va vb : Nat} (hk : k < ws.length) (h0 : k = 1) (h : wholeL top64 ws[k] = some v) (ht : insPto (ws.take k) = some (va, vb)) : insPto (ws.take (k + 1)) = some (va, v) := by
  subst h0
  match ws, hk, h with
  | a :: b :: r, _, h =>
    simp only [List.getElem_cons_succ, List.getElem_cons_zero] at h
    simp only [List.take_succ_cons, List.take_zero, insPto] at ht
    cases ha : wholeL top64 a with
    | none => rw [ha] at ht; cases ht
    | some u =>
      rw [ha] at ht
      simp only [Option.map_some, Option.some.injEq, Prod.mk.injEq] at ht
      obtain ⟨rfl, _⟩ := ht
      simp [insPto, ha, h]
theorem inscell {w : World} {nb : Nat} {x : Ins} (h0 : w.cell? ⟨nb, 0, none⟩ = some (.int .i64 x.op)) (h1 : w.cell? ⟨nb, 1, none⟩ = some (.int .u64 (x.a : Int))) (h2 : w.cell? ⟨nb, 2, none⟩ = some (.int .u64 (x.b : Int))) : ∀ j u, (insS.enc x)[j]? = some u → w.cell? ⟨nb, j, none⟩ = some u := by
  intro j u hj
  match j with
  | 0 => simp only [insS, List.getElem?_cons_zero] at hj; rw [← hj]; exact h0
  | 1 => simp only [insS, List.getElem?_cons_succ, List.getElem?_cons_zero] at hj; rw [← hj]; exact h1
  | 2 => simp only [insS, List.getElem?_cons_succ, List.getElem?_cons_zero] at hj; rw [← hj]; exact h2
  | j + 3 => simp [insS] at hj
theorem RdrAt.codeKept {w w' : World} {B rb mb : Nat} {x : RdrV} {st : Rs} (h : RdrAt w B rb mb x st) (hk : KeptBut w w' x.kv) : w'.cell? ⟨rb, 6, none⟩ = some x.kv ∧ w'.frozen? ⟨rb, 6, none⟩ = false :=
  ⟨(h.blk.keptL h.code (by decide) hk).cell 6, (h.blk.keptL h.code (by decide) hk).frozen 6⟩
def IrRel (ws : List (List UInt8)) (w : World) (ib : Nat) (i : Nat) (iv : Value) (wr : World) : Prop :=
  ∃ (k va vb : Nat), k ≤ ws.length ∧ iv = .int .i64 (k : Int) ∧ insPto (ws.take k) = some (va, vb) ∧ Blk wr ib 43 #[.int .i64 (i : Int), .int .u64 (va : Int), .int .u64 (vb : Int)] ∧ Below w.heap.size w wr
theorem instr_any (A : Option Addr) (n cap : Nat) (w0 : List UInt8) (ws : List (List UInt8)) (w : World) (C B rb mb : Nat) (hw : RdL strS w C (.slice A n cap) ((w0 :: ws).map str)) (hC : C ≤ w.heap.size) (x : RdrV) (st : Rs) (h : RdrAt w B rb mb x st) (hn : st.code.length ≤ 1000000000) (hsz0 : w0.length ≤ 1000000000) (hsz : ∀ x ∈ ws, x.length ≤ 1000000000) (hlen : ws.length ≤ 1000000001) (hE : PuEnv w) (hT : TabEnv w) :
    Calls Tryz.prog 48 #[.pointer (some ⟨rb, 0, none⟩), .slice A n cap] w (LnRet B rb mb w ((pInsR w0 ws).map fun c => { st with code := st.code ++ [c] })) := by
  obtain ⟨A0, c0, he, hc1, hc2⟩ := hw.open_
  injection he with e1 e2 e3
  subst e1 e3
  rw [List.length_map, List.length_cons] at e2 hc1
  subst e2
  unfold maxLen at hc2
  obtain ⟨a, rfl, hab, c0⟩ := at_word (k := 0) hw (by simp)
  simp only [List.getElem_cons_zero, addr_zero] at c0
  have H := Lib.hid h; have HE := Lib.hid hE; have HSZ := Lib.hid hsz; have HW := Lib.hid hw; have HT := Lib.hid hT
  have hl := h.drew.ops.run (str w0) (by rw [str_size]; unfold maxLen; omega)
  rw [str_data] at hl
  have r8 : w.cell? ⟨rb, 8, none⟩ = some (.map (some mb)) := h.blk.cell 8
  clear h hE hsz hw hT
  cases hv : opIdx w0 with
  | none =>
    have HN := Lib.hid (show pInsR w0 ws = none from by unfold pInsR; rw [hv])
    rw [show opsM w0 = none from by unfold opsM; rw [hv]; rfl] at hl
    clear hv
    go_enter Tryz.func48, Tryz.ntmps48
    go_wp2
    go_region
    go_wp2
    go_ret
    exact LnRet.bad (RKeep.of (Below.refl _ _).drew) (by rw [HN.out]; rfl) rfl
  | some i =>
    have hi17 : i < 17 := ((opIdx_iff _ _).1 hv).1
    rw [show opsM w0 = some (i : Int) from by unfold opsM; rw [hv]; rfl] at hl
    have t1 : w.cell? ⟨17, i * 2 + 1, none⟩ = some (.int .i64 (opArgs i)) := by rw [Nat.mul_comm]; exact HT.out.args i hi17
    have hab2 := opArgs_bd i
    by_cases hla : (ws.length : Int) = opArgs i
    · have HNX := Lib.hid (show pInsR w0 ws = (insPto ws).map fun p => ⟨(i : Int), p.1, p.2⟩ from by unfold pInsR; rw [hv]; exact if_pos hla)
      have hws2 : ws.length ≤ 2 := by omega
      have HLA := Lib.hid hla
      have hnq : (((ws.length : Int) + 1) != (1 + (ws.length : Int))) = false := by rw [Int.add_comm]; simp
      rw [← hla] at t1
      clear hv hla hab2
      by_cases hcap : cap = 1
      · subst hcap
        obtain rfl : ws = [] := List.eq_nil_of_length_eq_zero (by omega)
        have HTL := Lib.hid (RdL.tail1 HW.out)
        rw [List.length_map] at HTL
        go_enter Tryz.func48, Tryz.ntmps48
        go_wp2
        go_region
        go_wp2
        have hibE : w.heap.size ≤ w.heap.size := Nat.le_refl _
        go_loopw [40] (fun iv wr => IrRel [] w w.heap.size i iv wr) (fun iv _ => ([] : List (List UInt8)).length - (intOf iv).toNat)
        case atStart => exact ⟨0, 0, 0, Nat.zero_le _, rfl, rfl, Blk.new _ _ _, (Below.refl _ _).drew.alloc (Nat.le_refl _) _⟩
        case round =>
          obtain ⟨k, va, vb, hk, rfl, hu, hkb, hb⟩ := hrel
          have HU := Lib.hid hu; have HB := Lib.hid hb; have HK := Lib.hid hkb
          have hBr := hb.size
          clear hu hb hkb
          by_cases hlt : k < ([] : List (List UInt8)).length
          · exact absurd hlt (by simp)
          · have HN := Lib.hid (show insPto [] = some (va, vb) from by
              have := HU.out
              rwa [List.take_of_length_le (by omega)] at this)
            have HRr := Lib.hid (H.out.below HB.out)
            have q0 := HK.out.cell 0
            have q1 := HK.out.cell 1
            have q2 := HK.out.cell 2
            simp only [List.getElem?_toArray, List.getElem?_cons_zero, List.getElem?_cons_succ] at q0 q1 q2
            have hib := HK.out.lt
            have r6 : wr.cell? ⟨rb, 6, none⟩ = some x.kv := HRr.out.blk.cell 6
            have hrl := HRr.out.blk.lt
            have HL := Lib.hid (show st.code.length + 1 ≤ 970000000000 by omega)
            have HKB := Lib.hid (RKeep.ofW (rb := rb) H.out.hB HB.out)
            have hne : ¬ rb = w.heap.size := by
              have := H.out.blk.lt
              show ¬ rb = w.heap.size
              omega
            have hne2 : ¬ w.heap.size = rb := fun e => hne e.symm
            go_wp2
            go_region_law (first
              | ((with_reducible refine OwnL.stepAppendG insSOk (B := B) (v := x.kv) (l := st.code) (RdrAt.code (B := B) (rb := rb) (mb := mb) (x := x) (st := st) (by (repeat (first | exact HRr.out | with_reducible refine RdrAt.drew ?_ | with_reducible refine RdrAt.alloc ?_ _)); done)) (Ins.mk (i : Int) va vb) _ rfl _ _ rfl rfl rfl (by refine inscell ?_ ?_ ?_ <;> simp [World.cell?_alloc_new]) (RdrAt.hB (B := B) (rb := rb) (mb := mb) (x := x) (st := st) (by (repeat (first | exact HRr.out | with_reducible refine RdrAt.drew ?_ | with_reducible refine RdrAt.alloc ?_ _)); done)) HL.out (fun g6 c6 w6 h2 h3 h3k h4 h5 => ?_)); (have hR6 := (RdrAt.pushIns (B := B) (rb := rb) (mb := mb) (x := x) (st := st) (by (repeat (first | exact HRr.out | with_reducible refine RdrAt.drew ?_ | with_reducible refine RdrAt.alloc ?_ _)); done) (Ins.mk (i : Int) va vb) h2 h3 h3k)); (have hK6 := HKB.out.grow1 HRr.out.hB h3); (obtain ⟨m6, m7⟩ := (RdrAt.codeKept (B := B) (rb := rb) (mb := mb) (x := x) (st := st) (by (repeat (first | exact HRr.out | with_reducible refine RdrAt.drew ?_ | with_reducible refine RdrAt.alloc ?_ _)); done) h3k)); clear h2 h3 h3k h4))
            all_goals
              have HR6 := Lib.hid hR6
              have HK6 := Lib.hid ((hK6).trans (RKeep.set_ B rb 6 _ (.slice (some ⟨g6, 0, none⟩) (st.code.length + 1) c6)))
              clear hR6 hK6
              go_wp2
              go_ret
              exact LnRet.good HK6.out (by rw [HNX.out, HN.out]; rfl) rfl HR6.out
      · have HTL := Lib.hid (RdL.tail2 HW.out)
        rw [List.length_map] at HTL
        go_enter Tryz.func48, Tryz.ntmps48
        go_wp2
        go_region
        go_wp2
        have hibE : w.heap.size ≤ w.heap.size := Nat.le_refl _
        go_loopw [40] (fun iv wr => IrRel ws w w.heap.size i iv wr) (fun iv _ => ws.length - (intOf iv).toNat)
        case atStart => exact ⟨0, 0, 0, Nat.zero_le _, rfl, rfl, Blk.new _ _ _, (Below.refl _ _).drew.alloc (Nat.le_refl _) _⟩
        case round =>
          obtain ⟨k, va, vb, hk, rfl, hu, hkb, hb⟩ := hrel
          have HU := Lib.hid hu; have HB := Lib.hid hb; have HK := Lib.hid hkb
          have hBr := hb.size
          clear hu hb hkb
          by_cases hlt : k < ws.length
          · obtain ⟨a2, he2, hab2, c2⟩ := at_word (HTL.out.below (HB.out.mono hC)) hlt
            injection he2 with he2
            subst he2
            rw [Addr.add_lit] at c2
            have hxs : ws[k].length ≤ 1000000000 := HSZ.out _ (List.getElem_mem hlt)
            have hI := whole64_any (str ws[k]) (by rw [str_size]; exact hxs) wr (HE.out.belowW HB.out)
            rw [str_data] at hI
            have F0 := Lib.hid (fun v h0 h => @insPto_zero ws k v va vb hlt h0 h HU.out)
            have F1 := Lib.hid (fun v h0 h => @insPto_one ws k v va vb hlt h0 h HU.out)
            have F2 := Lib.hid (fun h => @insPto_bad ws k hlt hws2 h)
            have hk01 : k = 0 ∨ k = 1 := by omega
            generalize ws[k] = y at *
            cases hv : wholeL top64 y with
            | none =>
              have HN := Lib.hid (F2.out hv)
              have HV := Lib.hid hv
              clear hv
              go_wp2_with fail
              refine hI.mono ?_
              rintro e w2 ⟨⟨v', hv0, hv1, rfl, -⟩, hb2⟩
              have e64 : wholeL 18446744073709551616 y = none := HV.out
              rw [e64]
              have HB2 := Lib.hid (RKeep.ofW (rb := rb) H.out.hB (HB.out.trans (hb2.mono hBr)))
              clear hb2 hI e64
              go_wp2
              go_ret
              exact LnRet.bad HB2.out (by rw [HNX.out, HN.out]; rfl) rfl
            | some v =>
              have hvl := wholeL_lt hv
              unfold top64 at hvl
              have HV := Lib.hid hv
              clear hv
              go_wp2_with fail
              refine hI.mono ?_
              rintro e w2 ⟨⟨v', -, -, rfl, hvv⟩, hb2⟩
              have e64 : wholeL 18446744073709551616 y = some v := HV.out
              obtain rfl := hvv v e64
              rw [e64]
              have HB2 := Lib.hid (HB.out.trans (hb2.mono hBr))
              have HK2 := Lib.hid (HK.out.belowW hb2)
              have q1 := HK2.out.cell 1
              have q2 := HK2.out.cell 2
              have z1 := HK2.out.frozen 1
              have z2 := HK2.out.frozen 2
              simp only [List.getElem?_toArray, List.getElem?_cons_zero, List.getElem?_cons_succ] at q1 q2
              clear hb2 hI hvv e64
              rcases hk01 with h0 | h0
              · have HNX2 := Lib.hid (F0.out v h0 HV.out)
                have hk0 : (k : Int) = 0 := by omega
                clear h0
                go_wp2
                go_roundw
                case rel =>
                  have hr : IrRel ws w w.heap.size i (.int .i64 1) (w2.setCell ⟨w.heap.size, 1, none⟩ (.int .u64 (v : Int))) := by
                    refine ⟨k + 1, v, vb, hlt, by rw [show ((k + 1 : Nat) : Int) = 1 from by omega], HNX2.out, ?_, HB2.out.setCell (by show w.heap.size ≤ _; exact hibE) _⟩
                    simpa using HK2.out.set_ 1 (.int .u64 (v : Int))
                  exact hr
                case measure => simp [intOf]; omega
              · have HNX2 := Lib.hid (F1.out v h0 HV.out)
                have hk0 : ¬ (k : Int) = 0 := by omega
                clear h0
                go_wp2
                go_roundw
                case rel =>
                  have hr : IrRel ws w w.heap.size i (.int .i64 ((k : Int) + 1)) (w2.setCell ⟨w.heap.size, 2, none⟩ (.int .u64 (v : Int))) := by
                    refine ⟨k + 1, va, v, hlt, by go_num, HNX2.out, ?_, HB2.out.setCell (by show w.heap.size ≤ _; exact hibE) _⟩
                    simpa using HK2.out.set_ 2 (.int .u64 (v : Int))
                  exact hr
                case measure => simp [intOf]; omega
          · have HN := Lib.hid (show insPto ws = some (va, vb) from by
              have := HU.out
              rwa [List.take_of_length_le (by omega)] at this)
            have HRr := Lib.hid (H.out.below HB.out)
            have q0 := HK.out.cell 0
            have q1 := HK.out.cell 1
            have q2 := HK.out.cell 2
            simp only [List.getElem?_toArray, List.getElem?_cons_zero, List.getElem?_cons_succ] at q0 q1 q2
            have hib := HK.out.lt
            have r6 : wr.cell? ⟨rb, 6, none⟩ = some x.kv := HRr.out.blk.cell 6
            have hrl := HRr.out.blk.lt
            have HL := Lib.hid (show st.code.length + 1 ≤ 970000000000 by omega)
            have HKB := Lib.hid (RKeep.ofW (rb := rb) H.out.hB HB.out)
            have hne : ¬ rb = w.heap.size := by
              have := H.out.blk.lt
              show ¬ rb = w.heap.size
              omega
            have hne2 : ¬ w.heap.size = rb := fun e => hne e.symm
            go_wp2
            go_region_law (first
              | ((with_reducible refine OwnL.stepAppendG insSOk (B := B) (v := x.kv) (l := st.code) (RdrAt.code (B := B) (rb := rb) (mb := mb) (x := x) (st := st) (by (repeat (first | exact HRr.out | with_reducible refine RdrAt.drew ?_ | with_reducible refine RdrAt.alloc ?_ _)); done)) (Ins.mk (i : Int) va vb) _ rfl _ _ rfl rfl rfl (by refine inscell ?_ ?_ ?_ <;> simp [World.cell?_alloc_new]) (RdrAt.hB (B := B) (rb := rb) (mb := mb) (x := x) (st := st) (by (repeat (first | exact HRr.out | with_reducible refine RdrAt.drew ?_ | with_reducible refine RdrAt.alloc ?_ _)); done)) HL.out (fun g6 c6 w6 h2 h3 h3k h4 h5 => ?_)); (have hR6 := (RdrAt.pushIns (B := B) (rb := rb) (mb := mb) (x := x) (st := st) (by (repeat (first | exact HRr.out | with_reducible refine RdrAt.drew ?_ | with_reducible refine RdrAt.alloc ?_ _)); done) (Ins.mk (i : Int) va vb) h2 h3 h3k)); (have hK6 := HKB.out.grow1 HRr.out.hB h3); (obtain ⟨m6, m7⟩ := (RdrAt.codeKept (B := B) (rb := rb) (mb := mb) (x := x) (st := st) (by (repeat (first | exact HRr.out | with_reducible refine RdrAt.drew ?_ | with_reducible refine RdrAt.alloc ?_ _)); done) h3k)); clear h2 h3 h3k h4))
            all_goals
              have HR6 := Lib.hid hR6
              have HK6 := Lib.hid ((hK6).trans (RKeep.set_ B rb 6 _ (.slice (some ⟨g6, 0, none⟩) (st.code.length + 1) c6)))
              clear hR6 hK6
              go_wp2
              go_ret
              exact LnRet.good HK6.out (by rw [HNX.out, HN.out]; rfl) rfl HR6.out
    · have HN := Lib.hid (show pInsR w0 ws = none from by unfold pInsR; rw [hv]; exact if_neg hla)
      have hnl : ¬ (ws.length : Int) + 1 = 1 + opArgs i := by omega
      have hnl2 : (((ws.length : Int) + 1) != (1 + opArgs i)) = true := by simpa using hnl
      generalize opArgs i = na at *
      clear hv
      go_enter Tryz.func48, Tryz.ntmps48
      go_wp2
      go_region
      go_wp2
      go_ret
      exact LnRet.bad (RKeep.of (Below.refl _ _).drew) (by rw [HN.out]; rfl) rfl
end Go.Proofs.YtmdpfikalekmlaaGreatDoor
end
