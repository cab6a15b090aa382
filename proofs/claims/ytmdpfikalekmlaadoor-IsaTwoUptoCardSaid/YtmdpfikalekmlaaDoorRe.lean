/- Layer 1: the Reader, by pointer: its parts that make no loop. -/
import Derived.Test.YtmdpfikalekmlaaDoorWr
import Derived.Test.YtmdpfikalekmlaaDoorErrs
import Derived.Deep.RegionWith
import Derived.Deep.RegionHeld3
namespace Go.Proofs.YtmdpfikalekmlaaDoor
open Go.RowKit
set_option maxRecDepth 100000
set_option maxHeartbeats 1000000
set_option linter.unusedSimpArgs false
set_option linter.unusedVariables false

/-- Nothing but the block g changes, and no block is new. -/
structure Frm (g : Nat) (w w' : World) : Prop where
  below : Below g w w'
  size : w'.heap.size = w.heap.size
  rest : ∀ b, b ≠ g → w'.heap[b]? = w.heap[b]?
theorem Frm.refl (g : Nat) (w : World) : Frm g w w := ⟨Below.refl _ _, rfl, fun _ _ => rfl⟩
theorem Frm.trans {g : Nat} {a b c : World} (h1 : Frm g a b) (h2 : Frm g b c) : Frm g a c := ⟨h1.below.trans h2.below, h2.size.trans h1.size, fun x hx => (h2.rest x hx).trans (h1.rest x hx)⟩
theorem Frm.drew {g : Nat} {w w' : World} (h : Frm g w w') : Frm g w w'.drew := ⟨h.below.drew, h.size, h.rest⟩
theorem Frm.drewN {g : Nat} {w w' : World} (h : Frm g w w') (n : Nat) : Frm g w (w'.drewN n) := ⟨below_drewN h.below n, h.size, h.rest⟩
theorem Frm.set_ {g : Nat} {w w' : World} (h : Frm g w w') (i : Nat) (u : Value) : Frm g w (w'.setCell ⟨g, i, none⟩ u) :=
  ⟨h.below.setCell (by show g ≤ g; omega) _, by rw [← h.size]; simp [World.setCell], fun b hb => (Below.heap_setCell w' ⟨g, i, none⟩ u b hb).trans (h.rest b hb)⟩
theorem Frm.blk {g b : Nat} {w w' : World} {t : TypeId} {cs : Array Value} (h : Frm g w w') (hB : Blk w b t cs) (hb : b ≠ g) : Blk w' b t cs := (h.rest b hb).trans hB
theorem Frm.own {α : Type} {S : Shape α} {g B : Nat} {w w' : World} {v : Value} {l : List α} (h : Frm g w w') (ho : OwnL S w B v l) (hg : g < B) : OwnL S w' B v l := by
  refine ⟨ho.1, ?_⟩
  rcases ho.2 with h2 | ⟨b, cap, cur, hv, hb, hh, r⟩
  · exact Or.inl h2
  · exact Or.inr ⟨b, cap, cur, hv, hb, (h.rest b (by omega)).trans hh, r⟩
/-- The errors lie below g. -/
def ErrLow (w : World) (g : Nat) (ea : List Addr) : Prop := ∃ w0, ErrEnv w0 ea ∧ w0.heap.size ≤ g ∧ Below w0.heap.size w0 w
theorem ErrLow.of {w : World} {ea : List Addr} (h : ErrEnv w ea) : ErrLow w w.heap.size ea := ⟨w, h, Nat.le_refl _, Below.refl _ _⟩
theorem ErrLow.below {w w' : World} {g : Nat} {ea : List Addr} (h : ErrLow w g ea) (hb : Below g w w') : ErrLow w' g ea := by
  obtain ⟨w0, h1, h2, h3⟩ := h
  exact ⟨w0, h1, h2, h3.trans (hb.mono h2)⟩
theorem ErrLow.env {w : World} {g : Nat} {ea : List Addr} (h : ErrLow w g ea) : ErrEnv w ea := by
  obtain ⟨w0, h1, h2, h3⟩ := h
  exact h1.below h3
theorem ErrLow.cell {w : World} {g : Nat} {ea : List Addr} (h : ErrLow w g ea) (i : Nat) (hi : i < 24) : w.cell? ⟨errGs.getD i 0, 0, none⟩ = some (errI ea i) := h.env.cell i hi
theorem ErrLow.mono {w : World} {g g' : Nat} {ea : List Addr} (h : ErrLow w g ea) (hg : g ≤ g') : ErrLow w g' ea := by
  obtain ⟨w0, h1, h2, h3⟩ := h
  exact ⟨w0, h1, by omega, h3⟩
/-- The three errors that instructions and numbers need. -/
structure ErrFew (w : World) (ea : List Addr) : Prop where
  at0 : w.cell? ⟨1, 0, none⟩ = some (errI ea 0)
  at1 : w.cell? ⟨2, 0, none⟩ = some (errI ea 1)
  at20 : w.cell? ⟨0, 0, none⟩ = some (errI ea 20)
theorem ErrFew.cell {w : World} {ea : List Addr} (h : ErrFew w ea) (i : Nat) (hi : i = 0 ∨ i = 1 ∨ i = 20) : w.cell? ⟨errGs.getD i 0, 0, none⟩ = some (errI ea i) := by
  rcases hi with rfl | rfl | rfl
  · exact h.at0
  · exact h.at1
  · exact h.at20
theorem ErrFew.below {w w' : World} {ea : List Addr} (h : ErrFew w ea) (hb : Below w.heap.size w w') : ErrFew w' ea :=
  ⟨(hb.cell (p := ⟨1, 0, none⟩) (World.block_lt_of_cell? w _ h.at0)).trans h.at0, (hb.cell (p := ⟨2, 0, none⟩) (World.block_lt_of_cell? w _ h.at1)).trans h.at1, (hb.cell (p := ⟨0, 0, none⟩) (World.block_lt_of_cell? w _ h.at20)).trans h.at20⟩
theorem ErrFew.drew {w : World} {ea : List Addr} (h : ErrFew w ea) : ErrFew w.drew ea := h.below (Below.refl _ _).drew
theorem ErrEnv.few {w : World} {ea : List Addr} (h : ErrEnv w ea) : ErrFew w ea := ⟨h.cell 0 (by decide), h.cell 1 (by decide), h.cell 20 (by decide)⟩
/-- They lie below g. -/
def ErrLowF (w : World) (g : Nat) (ea : List Addr) : Prop := ∃ w0, ErrFew w0 ea ∧ w0.heap.size ≤ g ∧ Below w0.heap.size w0 w
theorem ErrLowF.below {w w' : World} {g : Nat} {ea : List Addr} (h : ErrLowF w g ea) (hb : Below g w w') : ErrLowF w' g ea := by
  obtain ⟨w0, h1, h2, h3⟩ := h
  exact ⟨w0, h1, h2, h3.trans (hb.mono h2)⟩
theorem ErrLowF.cell {w : World} {g : Nat} {ea : List Addr} (h : ErrLowF w g ea) (i : Nat) (hi : i = 0 ∨ i = 1 ∨ i = 20) : w.cell? ⟨errGs.getD i 0, 0, none⟩ = some (errI ea i) := by
  obtain ⟨w0, h1, h2, h3⟩ := h
  exact (h1.below h3).cell i hi
theorem ErrLow.few {w : World} {g : Nat} {ea : List Addr} (h : ErrLow w g ea) : ErrLowF w g ea := by
  obtain ⟨w0, h1, h2, h3⟩ := h
  exact ⟨w0, h1.few, h2, h3⟩
/-- A reader of the bytes m, at a place. -/
def RdAt (w : World) (g : Nat) (m : List UInt8) (k : Nat) : Prop :=
  ∃ A cap, Blk w g 80 #[.int .i64 (k : Int), .int .i64 (m.length : Int), .slice A m.length cap] ∧ RdL byteS w g (.slice A m.length cap) m ∧ k ≤ m.length ∧ m.length ≤ 10000000000
theorem RdAt.lt {w : World} {g : Nat} {m : List UInt8} {k : Nat} (h : RdAt w g m k) : g < w.heap.size := by obtain ⟨A, cap, h, _⟩ := h; exact h.lt
theorem RdAt.drew {w : World} {g : Nat} {m : List UInt8} {k : Nat} (h : RdAt w g m k) : RdAt w.drew g m k := h
theorem RdAt.drewN {w : World} {g : Nat} {m : List UInt8} {k : Nat} (h : RdAt w g m k) (n : Nat) : RdAt (w.drewN n) g m k := h
theorem RdAt.below {w w' : World} {g : Nat} {m : List UInt8} {k : Nat} (h : RdAt w g m k) (hb : Below (g + 1) w w') : RdAt w' g m k := by
  obtain ⟨A, cap, h1, h2, h3, h4⟩ := h
  exact ⟨A, cap, h1.below hb (by omega), h2.below (hb.mono (by omega)), h3, h4⟩
theorem RdAt.set_ {w : World} {g : Nat} {m : List UInt8} {k : Nat} (h : RdAt w g m k) (j : Nat) (hj : j ≤ m.length) : RdAt (w.setCell ⟨g, 0, none⟩ (.int .i64 (j : Int))) g m j := by
  obtain ⟨A, cap, h1, h2, h3, h4⟩ := h
  refine ⟨A, cap, by simpa using h1.set_ 0 (.int .i64 (j : Int)), h2.keep fun p hp => ?_, hj, h4⟩
  exact ((Below.refl g w).setCell (p := ⟨g, 0, none⟩) (by show g ≤ g; omega) (.int .i64 (j : Int))).cell hp
theorem newReader_any (x : Value) (m : List UInt8) (w : World) (hx : RdL byteS w w.heap.size x m) (hm : m.length ≤ 10000000000) :
    Calls Tryd.prog 33 #[x] w fun e w' => ∃ g, e = .returned (.pointer (some ⟨g, 0, none⟩)) ∧ w.heap.size ≤ g ∧ RdAt w' g m 0 ∧ Below w.heap.size w w' := by
  obtain ⟨A, cap, rfl, h1, h2⟩ := hx.open_
  have HX := Lib.hid hx; clear hx
  go_enter Tryd.func33, Tryd.ntmps33
  go_wp2_with fail
  have hb0 : Below w.heap.size w (w.alloc (.cells #[.slice A m.length cap] 24)) := (Below.refl _ _).alloc (Nat.le_refl _) _
  refine (concat_any (.slice A m.length cap) m w.heap.size _ w.heap.size (by rw [World.size_alloc]; omega) (HX.out.belowW (Nat.le_refl _) hb0) (by rw [World.cell?_alloc_new]; rfl) (by omega)).mono ?_
  rintro e w1 ⟨v, rfl, ho, hb⟩
  obtain ⟨A', cap', rfl⟩ := ownB_form ho
  have HO := Lib.hid ho; clear ho
  go_wp2
  go_ret
  have hbs := (hb0.trans (hb.mono (by rw [World.size_alloc]; omega)))
  exact ⟨_, rfl, hbs.size, ⟨A', cap', Blk.new _ _ _, (RdL.ofB HO.out).belowW (Nat.le_refl _) ((Below.refl _ _).alloc (Nat.le_refl _) _), Nat.zero_le _, hm⟩, hbs.trans ((Below.refl _ _).alloc hbs.size _)⟩
theorem left_any (g : Nat) (m : List UInt8) (k : Nat) (w : World) (h : RdAt w g m k) :
    Calls Tryd.prog 34 #[.pointer (some ⟨g, 0, none⟩)] w fun e w' => e = .returned (.int .i64 ((m.length - k : Nat) : Int)) ∧ Frm g w w' ∧ RdAt w' g m k := by
  have H := Lib.hid h
  obtain ⟨A, cap, h1, h2, h3, h4⟩ := h
  have c0 : w.cell? ⟨g, 0, none⟩ = some (.int .i64 (k : Int)) := h1.cell 0
  have c1 : w.cell? ⟨g, 1, none⟩ = some (.int .i64 (m.length : Int)) := h1.cell 1
  clear h1 h2
  go_enter Tryd.func34, Tryd.ntmps34
  go_wp2
  go_region
  go_wp2
  go_ret
  rw [show ((m.length - k : Nat) : Int) = (m.length : Int) - (k : Int) from by omega]
  exact ⟨rfl, (Frm.refl g w).drew, H.out.drew⟩
theorem rbyte_any (g : Nat) (m : List UInt8) (k : Nat) (w : World) (ea : List Addr) (h : RdAt w g m k) (hE : ErrLowF w g ea) :
    Calls Tryd.prog 35 #[.pointer (some ⟨g, 0, none⟩)] w fun e w' => Frm g w w' ∧
      ((∃ x, m[k]? = some x ∧ e = .returned (.tuple #[.int .u8 x.toNat, .nilIface]) ∧ RdAt w' g m (k + 1)) ∨ (m[k]? = none ∧ e = .returned (.tuple #[.int .u8 0, errI ea 0]) ∧ RdAt w' g m k)) := by
  have H := Lib.hid h
  have HE := Lib.hid hE
  clear hE
  go_enter Tryd.func35, Tryd.ntmps35
  go_wp2_with fail
  refine (left_any g m k w h).mono ?_
  rintro e w1 ⟨rfl, hf1, hr1⟩
  have HF1 := Lib.hid hf1
  have HR1 := Lib.hid hr1
  have cE : w1.cell? ⟨1, 0, none⟩ = some (errI ea 0) := (HE.out.below hf1.below).cell 0 (by decide)
  obtain ⟨A, cap, h1, h2, h3, h4⟩ := hr1
  have c0 : w1.cell? ⟨g, 0, none⟩ = some (.int .i64 (k : Int)) := h1.cell 0
  have c2 : w1.cell? ⟨g, 2, none⟩ = some (.slice A m.length cap) := h1.cell 2
  have hfz := h1.frozen 0
  have H2 := Lib.hid h2
  clear h2 hf1 h
  by_cases hk : k < m.length
  · have hz : ((m.length - k : Nat) : Int) ≠ 0 := by omega
    have hzb : (((m.length - k : Nat) : Int) == 0) = false := beq_eq_false_iff_ne.2 hz
    obtain ⟨a, rfl, ha, hx⟩ := at_byte H2.out hk
    generalize hml : m.length - k = d at *
    go_wp2
    have HR2 := Lib.hid (HR1.out.set_ (k + 1) hk)
    rw [show (((k + 1 : Nat)) : Int) = (k : Int) + 1 from rfl] at HR2
    have HF2 := Lib.hid (HF1.out.set_ 0 (.int .i64 ((k : Int) + 1)))
    have HX2 : (w1.setCell ⟨g, 0, none⟩ (.int .i64 ((k : Int) + 1))).cell? (a.add k) = some (.int .u8 m[k].toNat) := (((Below.refl g w1).setCell (p := ⟨g, 0, none⟩) (by show g ≤ g; omega) (.int .i64 ((k : Int) + 1))).cell ha).trans hx
    have HB2 : Blk (w1.setCell ⟨g, 0, none⟩ (.int .i64 ((k : Int) + 1))) g 80 #[.int .i64 ((k : Int) + 1), .int .i64 (m.length : Int), .slice (some a) m.length cap] := by simpa using h1.set_ 0 (.int .i64 ((k : Int) + 1))
    have b0 := HB2.cell 0
    have b2 := HB2.cell 2
    simp only [List.getElem?_toArray, List.getElem?_cons_zero, List.getElem?_cons_succ] at b0 b2
    clear hx c0 c2 h1 HB2 hfz cE
    generalize w1.setCell ⟨g, 0, none⟩ (.int .i64 ((k : Int) + 1)) = w2 at *
    go_region
    go_wp2
    go_ret2
    exact ⟨HF2.out.drew, .inl ⟨m[k], List.getElem?_eq_getElem hk, rfl, HR2.out.drew⟩⟩
  · have hz : m.length - k = 0 := by omega
    rw [hz]
    go_wp2
    go_region
    go_wp2
    go_ret2
    exact ⟨HF1.out.drew, .inr ⟨List.getElem?_eq_none (by omega), rfl, HR1.out.drew⟩⟩
end Go.Proofs.YtmdpfikalekmlaaDoor
