/- Layer 1: what the readers answer, plainly. -/
import Derived.Test.YtmdpfikalekmlaaGreatDoorBase
import Derived.Test.YtmdpfikalekmlaaGreatDoorWr
import Derived.Test.YtmdpfikalekmlaaGreatDoorErrs
import Derived.Deep.RegionWith
import Derived.Deep.RegionHeld3
import Derived.Laws.Bits64b
import Derived.Laws.BitsAllLaws
namespace Go.Proofs.YtmdpfikalekmlaaGreatDoor
set_option maxRecDepth 100000
set_option linter.unusedSimpArgs false
set_option linter.unusedVariables false

/-- Where a uvarint ends. -/
inductive Uv where
  | ok (n : Nat)
  | short
  | bad
def uvScan : Nat → List UInt8 → Uv
  | _, [] => .short
  | i, x :: r => if i = 9 ∧ 1 < x.toNat then .bad else if 128 ≤ x.toNat then uvScan (i + 1) r else if x.toNat = 0 ∧ 0 < i then .bad else .ok (i + 1)
def uvVal (l : List UInt8) : Nat := l.foldr (fun x v => 128 * v + x.toNat % 128) 0
theorem uvVal_nil : uvVal [] = 0 := rfl
theorem uvVal_cons (x : UInt8) (l : List UInt8) : uvVal (x :: l) = 128 * uvVal l + x.toNat % 128 := rfl
theorem uvVal_snoc (l : List UInt8) (x : UInt8) : uvVal (l ++ [x]) = uvVal l + 128 ^ l.length * (x.toNat % 128) := by
  induction l with
  | nil => simp [uvVal]
  | cons a l ih =>
    rw [List.cons_append, uvVal_cons, ih, uvVal_cons, List.length_cons, Nat.pow_succ, Nat.mul_add, ← Nat.mul_assoc, Nat.mul_comm 128 (128 ^ l.length)]
    omega
theorem uvVal_lt (l : List UInt8) : uvVal l < 128 ^ l.length := by
  induction l with
  | nil => simp [uvVal]
  | cons a l ih =>
    rw [uvVal_cons, List.length_cons, Nat.pow_succ]
    omega
theorem uvScan_none (i : Nat) : uvScan i [] = .short := rfl
theorem uvScan_at {m : List UInt8} {j : Nat} (i : Nat) (h : j < m.length) : uvScan i (m.drop j) = if i = 9 ∧ 1 < m[j].toNat then .bad else if 128 ≤ m[j].toNat then uvScan (i + 1) (m.drop (j + 1)) else if m[j].toNat = 0 ∧ 0 < i then .bad else .ok (i + 1) := by
  rw [List.drop_eq_getElem_cons h]; rfl
theorem uvScan_end {m : List UInt8} {j : Nat} (i : Nat) (h : m.length ≤ j) : uvScan i (m.drop j) = .short := by
  rw [List.drop_eq_nil_of_le h]; rfl
theorem uvScan_le : ∀ (l : List UInt8) (i n : Nat), uvScan i l = .ok n → i < n ∧ n ≤ i + l.length
  | [], i, n, h => by cases h
  | x :: r, i, n, h => by
    unfold uvScan at h
    split at h
    · cases h
    · split at h
      · have := uvScan_le r (i + 1) n h
        rw [List.length_cons]; omega
      · split at h
        · cases h
        · cases h
          rw [List.length_cons]; omega
theorem uvScan_le10 : ∀ (l : List UInt8) (i n : Nat), i ≤ 9 → uvScan i l = .ok n → n ≤ 10
  | [], i, n, _, h => by cases h
  | x :: r, i, n, hi, h => by
    unfold uvScan at h
    split at h
    · cases h
    · split at h
      · rename_i h1 h2
        exact uvScan_le10 r (i + 1) n (by rcases Nat.lt_or_ge i 9 with h9 | h9; omega; exact absurd ⟨by omega, by omega⟩ h1) h
      · split at h
        · cases h
        · cases h
          omega
/-- The value that a scan ends with fits. -/
theorem uvVal_fits (m : List UInt8) (n : Nat) (h : uvScan 0 m = .ok n) : uvVal (m.take n) < 18446744073709551616 := by
  have hn := uvScan_le m 0 n h
  have hn10 := uvScan_le10 m 0 n (by omega) h
  rcases Nat.lt_or_ge n 10 with h9 | h9
  · have h1 := uvVal_lt (m.take n)
    have h2 : (m.take n).length = n := by rw [List.length_take]; omega
    rw [h2] at h1
    exact Nat.lt_of_lt_of_le h1 (Nat.le_trans (Nat.pow_le_pow_right (by decide) (by omega : n ≤ 9)) (by decide))
  · obtain rfl : n = 10 := by omega
    have h9' : 9 < m.length := by omega
    rw [List.take_succ_eq_append_getElem h9', uvVal_snoc]
    have h1 := uvVal_lt (m.take 9)
    have h2 : (m.take 9).length = 9 := by rw [List.length_take]; omega
    rw [h2] at h1 ⊢
    have hs : ∀ j, j ≤ 9 → uvScan 0 m = uvScan j (m.drop j) := by
      intro j
      induction j with
      | zero => intro _; rfl
      | succ j ih =>
        intro hj
        rw [ih (by omega)] at h ⊢
        rw [uvScan_at j (by omega)] at h ⊢
        split at h
        · cases h
        · rename_i h3
          rw [if_neg h3]
          split at h
          · rename_i h4
            rw [if_pos h4]
          · split at h
            · cases h
            · injection h with h
              omega
    rw [hs 9 (by omega), uvScan_at 9 h9'] at h
    split at h
    · cases h
    · rename_i h3
      have h4 : m[9].toNat ≤ 1 := by
        rcases Nat.lt_or_ge 1 m[9].toNat with h5 | h5
        · exact absurd ⟨rfl, h5⟩ h3
        · exact h5
      have h5 : m[9].toNat % 128 ≤ 1 := by omega
      have h6 : (128 : Nat) ^ 9 = 9223372036854775808 := by decide
      rw [h6] at h1 ⊢
      have := Nat.mul_le_mul_left 9223372036854775808 h5
      omega
/-- What a reader answers: a value and the place behind it, or an error's number (less one). -/
inductive Rr (α : Type) where
  | ok (v : α) (k : Nat)
  | no (i : Nat)
def uvR (m : List UInt8) (k : Nat) : Rr Nat := match uvScan 0 (m.drop k) with
  | .ok n => .ok (uvVal ((m.drop k).take n)) (k + n)
  | .short => .no 0
  | .bad => .no 1
theorem uvR_ok {m : List UInt8} {k n : Nat} (h : uvScan 0 (m.drop k) = .ok n) : uvR m k = .ok (uvVal ((m.drop k).take n)) (k + n) := by unfold uvR; rw [h]
theorem uvR_short {m : List UInt8} {k : Nat} (h : uvScan 0 (m.drop k) = .short) : uvR m k = .no 0 := by unfold uvR; rw [h]
theorem uvR_bad {m : List UInt8} {k : Nat} (h : uvScan 0 (m.drop k) = .bad) : uvR m k = .no 1 := by unfold uvR; rw [h]
theorem uvR_le {m : List UInt8} {k v j : Nat} (hk : k ≤ m.length) (h : uvR m k = .ok v j) : k < j ∧ j ≤ m.length ∧ v < 18446744073709551616 := by
  unfold uvR at h
  split at h
  · rename_i n hn
    injection h with h1 h2
    subst h1; subst h2
    have := uvScan_le _ _ _ hn
    rw [List.length_drop] at this
    exact ⟨by omega, by omega, uvVal_fits _ _ hn⟩
  · cases h
  · cases h
theorem uvR_no {m : List UInt8} {k i : Nat} (h : uvR m k = .no i) : i = 0 ∨ i = 1 := by
  unfold uvR at h
  split at h
  · cases h
  · injection h with h; omega
  · injection h with h; omega
def uptoR (most : Nat) (m : List UInt8) (k : Nat) : Rr Nat := match uvR m k with
  | .ok v j => if most < v then .no 2 else .ok v j
  | .no i => .no i
theorem uptoR_le {most : Nat} {m : List UInt8} {k v j : Nat} (hk : k ≤ m.length) (h : uptoR most m k = .ok v j) : k < j ∧ j ≤ m.length ∧ v ≤ most := by
  unfold uptoR at h
  split at h
  · rename_i v' j' hv
    split at h
    · cases h
    · injection h with h1 h2
      subst h1; subst h2
      have := uvR_le hk hv
      omega
  · cases h
theorem uptoR_no {most : Nat} {m : List UInt8} {k i : Nat} (h : uptoR most m k = .no i) : i = 0 ∨ i = 1 ∨ i = 2 := by
  unfold uptoR at h
  split at h
  · split at h
    · injection h with h; omega
    · cases h
  · rename_i i' hv
    injection h with h
    have := uvR_no hv
    omega
def textR (most : Nat) (m : List UInt8) (k : Nat) : Rr (List UInt8) := match uptoR most m k with
  | .ok n j => if m.length - j < n then .no 0 else .ok ((m.drop j).take n) (j + n)
  | .no i => .no i
theorem textR_le {most : Nat} {m : List UInt8} {k : Nat} {t : List UInt8} {j : Nat} (hk : k ≤ m.length) (h : textR most m k = .ok t j) : k < j ∧ j ≤ m.length ∧ t.length ≤ most := by
  unfold textR at h
  split at h
  · rename_i n j' hv
    split at h
    · cases h
    · injection h with h1 h2
      subst h1; subst h2
      have := uptoR_le hk hv
      rw [List.length_take]
      omega
  · cases h
theorem textR_no {most : Nat} {m : List UInt8} {k i : Nat} (h : textR most m k = .no i) : i = 0 ∨ i = 1 ∨ i = 2 := by
  unfold textR at h
  split at h
  · split at h
    · injection h with h; omega
    · cases h
  · rename_i i' hv
    injection h with h
    have := uptoR_no hv
    omega
end Go.Proofs.YtmdpfikalekmlaaGreatDoor
/- Layer 1: the Reader, by pointer: its parts that make no loop. -/
namespace Go.Proofs.YtmdpfikalekmlaaGreatDoor
open Go.RowKit
set_option maxRecDepth 100000
set_option maxHeartbeats 1000000
set_option linter.unusedSimpArgs false
set_option linter.unusedVariables false

/-- Nothing but the block g changes, and no block is new. -/
structure Frm (g : Nat) (w w' : World) : Prop where
  below : Below g w w'
  size : w'.heap.size = w.heap.size
  rest : ∀ b, b ≠ g → w'.heap[b]? = w.heap[b]?
theorem Frm.refl (g : Nat) (w : World) : Frm g w w := ⟨Below.refl _ _, rfl, fun _ _ => rfl⟩
theorem Frm.trans {g : Nat} {a b c : World} (h1 : Frm g a b) (h2 : Frm g b c) : Frm g a c := ⟨h1.below.trans h2.below, h2.size.trans h1.size, fun x hx => (h2.rest x hx).trans (h1.rest x hx)⟩
theorem Frm.drew {g : Nat} {w w' : World} (h : Frm g w w') : Frm g w w'.drew := ⟨h.below.drew, h.size, h.rest⟩
theorem Frm.drewN {g : Nat} {w w' : World} (h : Frm g w w') (n : Nat) : Frm g w (w'.drewN n) := ⟨below_drewN h.below n, h.size, h.rest⟩
theorem Frm.set_ {g : Nat} {w w' : World} (h : Frm g w w') (i : Nat) (u : Value) : Frm g w (w'.setCell ⟨g, i, none⟩ u) :=
  ⟨h.below.setCell (by show g ≤ g; omega) _, by rw [← h.size]; simp [World.setCell], fun b hb => (Below.heap_setCell w' ⟨g, i, none⟩ u b hb).trans (h.rest b hb)⟩
theorem Frm.blk {g b : Nat} {w w' : World} {t : TypeId} {cs : Array Value} (h : Frm g w w') (hB : Blk w b t cs) (hb : b ≠ g) : Blk w' b t cs := (h.rest b hb).trans hB
theorem Frm.own {α : Type} {S : Shape α} {g B : Nat} {w w' : World} {v : Value} {l : List α} (h : Frm g w w') (ho : OwnL S w B v l) (hg : g < B) : OwnL S w' B v l := by
  refine ⟨ho.1, ?_⟩
  rcases ho.2 with h2 | ⟨b, cap, cur, hv, hb, hh, r⟩
  · exact Or.inl h2
  · exact Or.inr ⟨b, cap, cur, hv, hb, (h.rest b (by omega)).trans hh, r⟩
/-- The errors lie below g. -/
def ErrLow (w : World) (g : Nat) (ea : List Addr) : Prop := ∃ w0, ErrEnv w0 ea ∧ w0.heap.size ≤ g ∧ Below w0.heap.size w0 w
theorem ErrLow.of {w : World} {ea : List Addr} (h : ErrEnv w ea) : ErrLow w w.heap.size ea := ⟨w, h, Nat.le_refl _, Below.refl _ _⟩
theorem ErrLow.below {w w' : World} {g : Nat} {ea : List Addr} (h : ErrLow w g ea) (hb : Below g w w') : ErrLow w' g ea := by
  obtain ⟨w0, h1, h2, h3⟩ := h
  exact ⟨w0, h1, h2, h3.trans (hb.mono h2)⟩
theorem ErrLow.env {w : World} {g : Nat} {ea : List Addr} (h : ErrLow w g ea) : ErrEnv w ea := by
  obtain ⟨w0, h1, h2, h3⟩ := h
  exact h1.below h3
theorem ErrLow.cell {w : World} {g : Nat} {ea : List Addr} (h : ErrLow w g ea) (i : Nat) (hi : i < 24) : w.cell? ⟨errGs.getD i 0, 0, none⟩ = some (errI ea i) := h.env.cell i hi
theorem ErrLow.mono {w : World} {g g' : Nat} {ea : List Addr} (h : ErrLow w g ea) (hg : g ≤ g') : ErrLow w g' ea := by
  obtain ⟨w0, h1, h2, h3⟩ := h
  exact ⟨w0, h1, by omega, h3⟩
/-- The three errors that instructions and numbers need. -/
structure ErrFew (w : World) (ea : List Addr) : Prop where
  at0 : w.cell? ⟨1, 0, none⟩ = some (errI ea 0)
  at1 : w.cell? ⟨2, 0, none⟩ = some (errI ea 1)
  at20 : w.cell? ⟨16, 0, none⟩ = some (errI ea 20)
theorem ErrFew.cell {w : World} {ea : List Addr} (h : ErrFew w ea) (i : Nat) (hi : i = 0 ∨ i = 1 ∨ i = 20) : w.cell? ⟨errGs.getD i 0, 0, none⟩ = some (errI ea i) := by
  rcases hi with rfl | rfl | rfl
  · exact h.at0
  · exact h.at1
  · exact h.at20
theorem ErrFew.below {w w' : World} {ea : List Addr} (h : ErrFew w ea) (hb : Below w.heap.size w w') : ErrFew w' ea :=
  ⟨(hb.cell (p := ⟨1, 0, none⟩) (World.block_lt_of_cell? w _ h.at0)).trans h.at0, (hb.cell (p := ⟨2, 0, none⟩) (World.block_lt_of_cell? w _ h.at1)).trans h.at1, (hb.cell (p := ⟨16, 0, none⟩) (World.block_lt_of_cell? w _ h.at20)).trans h.at20⟩
theorem ErrFew.drew {w : World} {ea : List Addr} (h : ErrFew w ea) : ErrFew w.drew ea := h.below (Below.refl _ _).drew
theorem ErrEnv.few {w : World} {ea : List Addr} (h : ErrEnv w ea) : ErrFew w ea := ⟨h.cell 0 (by decide), h.cell 1 (by decide), h.cell 20 (by decide)⟩
/-- They lie below g. -/
def ErrLowF (w : World) (g : Nat) (ea : List Addr) : Prop := ∃ w0, ErrFew w0 ea ∧ w0.heap.size ≤ g ∧ Below w0.heap.size w0 w
theorem ErrLowF.below {w w' : World} {g : Nat} {ea : List Addr} (h : ErrLowF w g ea) (hb : Below g w w') : ErrLowF w' g ea := by
  obtain ⟨w0, h1, h2, h3⟩ := h
  exact ⟨w0, h1, h2, h3.trans (hb.mono h2)⟩
theorem ErrLowF.cell {w : World} {g : Nat} {ea : List Addr} (h : ErrLowF w g ea) (i : Nat) (hi : i = 0 ∨ i = 1 ∨ i = 20) : w.cell? ⟨errGs.getD i 0, 0, none⟩ = some (errI ea i) := by
  obtain ⟨w0, h1, h2, h3⟩ := h
  exact (h1.below h3).cell i hi
theorem ErrLow.few {w : World} {g : Nat} {ea : List Addr} (h : ErrLow w g ea) : ErrLowF w g ea := by
  obtain ⟨w0, h1, h2, h3⟩ := h
  exact ⟨w0, h1.few, h2, h3⟩
/-- A reader of the bytes m, at a place. -/
def RdAt (w : World) (g : Nat) (m : List UInt8) (k : Nat) : Prop :=
  ∃ A cap, Blk w g 118 #[.int .i64 (k : Int), .int .i64 (m.length : Int), .slice A m.length cap] ∧ RdL byteS w g (.slice A m.length cap) m ∧ k ≤ m.length ∧ m.length ≤ 10000000000
theorem RdAt.lt {w : World} {g : Nat} {m : List UInt8} {k : Nat} (h : RdAt w g m k) : g < w.heap.size := by obtain ⟨A, cap, h, _⟩ := h; exact h.lt
theorem RdAt.drew {w : World} {g : Nat} {m : List UInt8} {k : Nat} (h : RdAt w g m k) : RdAt w.drew g m k := h
theorem RdAt.drewN {w : World} {g : Nat} {m : List UInt8} {k : Nat} (h : RdAt w g m k) (n : Nat) : RdAt (w.drewN n) g m k := h
theorem RdAt.below {w w' : World} {g : Nat} {m : List UInt8} {k : Nat} (h : RdAt w g m k) (hb : Below (g + 1) w w') : RdAt w' g m k := by
  obtain ⟨A, cap, h1, h2, h3, h4⟩ := h
  exact ⟨A, cap, h1.below hb (by omega), h2.below (hb.mono (by omega)), h3, h4⟩
theorem RdAt.set_ {w : World} {g : Nat} {m : List UInt8} {k : Nat} (h : RdAt w g m k) (j : Nat) (hj : j ≤ m.length) : RdAt (w.setCell ⟨g, 0, none⟩ (.int .i64 (j : Int))) g m j := by
  obtain ⟨A, cap, h1, h2, h3, h4⟩ := h
  refine ⟨A, cap, by simpa using h1.set_ 0 (.int .i64 (j : Int)), h2.keep fun p hp => ?_, hj, h4⟩
  exact ((Below.refl g w).setCell (p := ⟨g, 0, none⟩) (by show g ≤ g; omega) (.int .i64 (j : Int))).cell hp
theorem newReader_any (x : Value) (m : List UInt8) (w : World) (hx : RdL byteS w w.heap.size x m) (hm : m.length ≤ 10000000000) :
    Calls Tryz.prog 58 #[x] w fun e w' => ∃ g, e = .returned (.pointer (some ⟨g, 0, none⟩)) ∧ w.heap.size ≤ g ∧ RdAt w' g m 0 ∧ Below w.heap.size w w' := by
  obtain ⟨A, cap, rfl, h1, h2⟩ := hx.open_
  have HX := Lib.hid hx; clear hx
  go_enter Tryz.func58, Tryz.ntmps58
  go_wp2_with fail
  have hb0 : Below w.heap.size w (w.alloc (.cells #[.slice A m.length cap] 26)) := (Below.refl _ _).alloc (Nat.le_refl _) _
  refine (concat_any (.slice A m.length cap) m w.heap.size _ w.heap.size (by rw [World.size_alloc]; omega) (HX.out.belowW (Nat.le_refl _) hb0) (by rw [World.cell?_alloc_new]; rfl) (by omega)).mono ?_
  rintro e w1 ⟨v, rfl, ho, hb⟩
  obtain ⟨A', cap', rfl⟩ := ownB_form ho
  have HO := Lib.hid ho; clear ho
  go_wp2
  go_ret
  have hbs := (hb0.trans (hb.mono (by rw [World.size_alloc]; omega)))
  exact ⟨_, rfl, hbs.size, ⟨A', cap', Blk.new _ _ _, (RdL.ofB HO.out).belowW (Nat.le_refl _) ((Below.refl _ _).alloc (Nat.le_refl _) _), Nat.zero_le _, hm⟩, hbs.trans ((Below.refl _ _).alloc hbs.size _)⟩
theorem left_any (g : Nat) (m : List UInt8) (k : Nat) (w : World) (h : RdAt w g m k) :
    Calls Tryz.prog 59 #[.pointer (some ⟨g, 0, none⟩)] w fun e w' => e = .returned (.int .i64 ((m.length - k : Nat) : Int)) ∧ Frm g w w' ∧ RdAt w' g m k := by
  have H := Lib.hid h
  obtain ⟨A, cap, h1, h2, h3, h4⟩ := h
  have c0 : w.cell? ⟨g, 0, none⟩ = some (.int .i64 (k : Int)) := h1.cell 0
  have c1 : w.cell? ⟨g, 1, none⟩ = some (.int .i64 (m.length : Int)) := h1.cell 1
  clear h1 h2
  go_enter Tryz.func59, Tryz.ntmps59
  go_wp2
  go_region
  go_wp2
  go_ret
  rw [show ((m.length - k : Nat) : Int) = (m.length : Int) - (k : Int) from by omega]
  exact ⟨rfl, (Frm.refl g w).drew, H.out.drew⟩
theorem rbyte_any (g : Nat) (m : List UInt8) (k : Nat) (w : World) (ea : List Addr) (h : RdAt w g m k) (hE : ErrLowF w g ea) :
    Calls Tryz.prog 60 #[.pointer (some ⟨g, 0, none⟩)] w fun e w' => Frm g w w' ∧
      ((∃ x, m[k]? = some x ∧ e = .returned (.tuple #[.int .u8 x.toNat, .nilIface]) ∧ RdAt w' g m (k + 1)) ∨ (m[k]? = none ∧ e = .returned (.tuple #[.int .u8 0, errI ea 0]) ∧ RdAt w' g m k)) := by
  have H := Lib.hid h
  have HE := Lib.hid hE
  clear hE
  go_enter Tryz.func60, Tryz.ntmps60
  go_wp2_with fail
  refine (left_any g m k w h).mono ?_
  rintro e w1 ⟨rfl, hf1, hr1⟩
  have HF1 := Lib.hid hf1
  have HR1 := Lib.hid hr1
  have cE : w1.cell? ⟨1, 0, none⟩ = some (errI ea 0) := (HE.out.below hf1.below).cell 0 (by decide)
  obtain ⟨A, cap, h1, h2, h3, h4⟩ := hr1
  have c0 : w1.cell? ⟨g, 0, none⟩ = some (.int .i64 (k : Int)) := h1.cell 0
  have c2 : w1.cell? ⟨g, 2, none⟩ = some (.slice A m.length cap) := h1.cell 2
  have hfz := h1.frozen 0
  have H2 := Lib.hid h2
  clear h2 hf1 h
  by_cases hk : k < m.length
  · have hz : ((m.length - k : Nat) : Int) ≠ 0 := by omega
    have hzb : (((m.length - k : Nat) : Int) == 0) = false := beq_eq_false_iff_ne.2 hz
    obtain ⟨a, rfl, ha, hx⟩ := at_byte H2.out hk
    generalize hml : m.length - k = d at *
    go_wp2
    have HR2 := Lib.hid (HR1.out.set_ (k + 1) hk)
    rw [show (((k + 1 : Nat)) : Int) = (k : Int) + 1 from rfl] at HR2
    have HF2 := Lib.hid (HF1.out.set_ 0 (.int .i64 ((k : Int) + 1)))
    have HX2 : (w1.setCell ⟨g, 0, none⟩ (.int .i64 ((k : Int) + 1))).cell? (a.add k) = some (.int .u8 m[k].toNat) := (((Below.refl g w1).setCell (p := ⟨g, 0, none⟩) (by show g ≤ g; omega) (.int .i64 ((k : Int) + 1))).cell ha).trans hx
    have HB2 : Blk (w1.setCell ⟨g, 0, none⟩ (.int .i64 ((k : Int) + 1))) g 118 #[.int .i64 ((k : Int) + 1), .int .i64 (m.length : Int), .slice (some a) m.length cap] := by simpa using h1.set_ 0 (.int .i64 ((k : Int) + 1))
    have b0 := HB2.cell 0
    have b2 := HB2.cell 2
    simp only [List.getElem?_toArray, List.getElem?_cons_zero, List.getElem?_cons_succ] at b0 b2
    clear hx c0 c2 h1 HB2 hfz cE
    generalize w1.setCell ⟨g, 0, none⟩ (.int .i64 ((k : Int) + 1)) = w2 at *
    go_region
    go_wp2
    go_ret2
    exact ⟨HF2.out.drew, .inl ⟨m[k], List.getElem?_eq_getElem hk, rfl, HR2.out.drew⟩⟩
  · have hz : m.length - k = 0 := by omega
    rw [hz]
    go_wp2
    go_region
    go_wp2
    go_ret2
    exact ⟨HF1.out.drew, .inr ⟨List.getElem?_eq_none (by omega), rfl, HR1.out.drew⟩⟩
end Go.Proofs.YtmdpfikalekmlaaGreatDoor
/- Layer 1: the Reader's Uvarint, Upto and Text. -/
namespace Go.Proofs.YtmdpfikalekmlaaGreatDoor
open Go.RowKit
set_option maxRecDepth 100000
set_option maxHeartbeats 1000000
set_option linter.unusedSimpArgs false
set_option linter.unusedVariables false

theorem and127 (x : UInt8) : bits .and .u8 (x.toNat : Int) 127 = ((x.toNat % 128 : Nat) : Int) := by
  have h := u8_and_nat x.toNat 127 x.toNat_lt (by decide)
  rw [show ((127 : Nat) : Int) = 127 from rfl] at h
  rw [h, show (127 : Nat) = 2 ^ 7 - 1 from rfl, Nat.and_two_pow_sub_one_eq_mod]
theorem shl7 (y i : Nat) (hy : y < 128) (hi : i ≤ 9) (h9 : i = 9 → y ≤ 1) : IntKind.u64.wrap ((y : Int) * 2 ^ (7 * i)) = ((128 ^ i * y : Nat) : Int) := by
  have e : (2 : Int) ^ (7 * i) = ((128 ^ i : Nat) : Int) := by
    rw [Int.pow_mul]
    push_cast
    rfl
  have hlt : 128 ^ i * y < 18446744073709551616 := by
    rcases Nat.lt_or_ge i 9 with h | h
    · have h1 : 128 ^ i ≤ 128 ^ 8 := Nat.pow_le_pow_right (by decide) (by omega)
      have h2 : (128 : Nat) ^ 8 = 72057594037927936 := by decide
      have := Nat.mul_le_mul h1 (by omega : y ≤ 127)
      omega
    · obtain rfl : i = 9 := by omega
      have h2 : (128 : Nat) ^ 9 = 9223372036854775808 := by decide
      have := h9 rfl
      have := Nat.mul_le_mul_left (128 ^ 9) this
      omega
  rw [e, Int.mul_comm, ← Int.natCast_mul, IntKind.wrap_u64]
  omega
theorem or_add (i a y : Nat) (ha : a < 128 ^ i) : a ||| 128 ^ i * y = a + 128 ^ i * y := by
  have e : 128 ^ i = 2 ^ (7 * i) := by rw [Nat.pow_mul]
  rw [e] at ha ⊢
  rw [Nat.or_comm, ← Nat.two_pow_add_eq_or_of_lt ha, Nat.add_comm]
theorem or64 (i a y : Nat) (ha : a < 128 ^ i) (hs : a + 128 ^ i * y < 18446744073709551616) : bits .or .u64 (a : Int) ((128 ^ i * y : Nat) : Int) = ((a + 128 ^ i * y : Nat) : Int) := by
  rw [u64_or_nat a (128 ^ i * y) (by omega) (by omega), or_add i a y ha]
theorem at_byte' {w : World} {B : Nat} {A : Option Addr} {n cap : Nat} {l : List UInt8} (h : RdL byteS w B (.slice A n cap) l) {k : Nat} (hk : k < l.length) :
    ∃ a x, A = some a ∧ (a.add k).block < B ∧ l[k]? = some x ∧ w.cell? (a.add k) = some (.int .u8 x.toNat) := by
  obtain ⟨a, h1, h2, h3⟩ := at_byte h hk
  exact ⟨a, l[k], h1, h2, List.getElem?_eq_getElem hk, h3⟩
theorem uvScan_get {m : List UInt8} {j : Nat} {x : UInt8} (i : Nat) (h : m[j]? = some x) : uvScan i (m.drop j) = if i = 9 ∧ 1 < x.toNat then .bad else if 128 ≤ x.toNat then uvScan (i + 1) (m.drop (j + 1)) else if x.toNat = 0 ∧ 0 < i then .bad else .ok (i + 1) := by
  obtain ⟨h1, rfl⟩ := List.getElem?_eq_some_iff.1 h
  exact uvScan_at i h1
theorem uvVal_next {m : List UInt8} {k i : Nat} {x : UInt8} (h : m[k + i]? = some x) : uvVal ((m.drop k).take (i + 1)) = uvVal ((m.drop k).take i) + 128 ^ i * (x.toNat % 128) ∧ uvVal ((m.drop k).take i) < 128 ^ i := by
  obtain ⟨h1, rfl⟩ := List.getElem?_eq_some_iff.1 h
  have hlk : i < (m.drop k).length := by rw [List.length_drop]; omega
  refine ⟨by rw [List.take_succ_eq_append_getElem hlk, uvVal_snoc, List.length_take, Nat.min_eq_left (by omega), List.getElem_drop], ?_⟩
  have := uvVal_lt ((m.drop k).take i)
  rw [List.length_take, List.length_drop, Nat.min_eq_left (by omega)] at this
  exact this
theorem uv_fit {x V i : Nat} (hV : V < 128 ^ i) (hi : i ≤ 9) (h9 : i = 9 → x ≤ 1) : V + 128 ^ i * (x % 128) < 18446744073709551616 := by
  rcases Nat.lt_or_ge i 9 with h | h
  · have h1 : 128 ^ i ≤ 128 ^ 8 := Nat.pow_le_pow_right (by decide) (by omega)
    have h2 : (128 : Nat) ^ 8 = 72057594037927936 := by decide
    have := Nat.mul_le_mul h1 (by omega : x % 128 ≤ 127)
    omega
  · obtain rfl : i = 9 := by omega
    have h2 : (128 : Nat) ^ 9 = 9223372036854775808 := by decide
    have := h9 rfl
    have := Nat.mul_le_mul_left (128 ^ 9) (by omega : x % 128 ≤ 1)
    omega
/-- The step of the value, in numbers alone. -/
theorem uv_step {x : UInt8} {V i : Nat} (hV : V < 128 ^ i) (hi : i ≤ 9) (h9 : i = 9 → x.toNat ≤ 1) :
    ∃ y z V' : Nat, y < 128 ∧ z < 18446744073709551616 ∧ V' < 18446744073709551616 ∧ bits .and .u8 (x.toNat : Int) 127 = (y : Int) ∧ IntKind.u64.wrap ((y : Int) * 2 ^ (7 * i)) = (z : Int) ∧ bits .or .u64 (V : Int) (z : Int) = (V' : Int) ∧ V' = V + 128 ^ i * (x.toNat % 128) := by
  have hfit := uv_fit hV hi h9
  exact ⟨x.toNat % 128, 128 ^ i * (x.toNat % 128), V + 128 ^ i * (x.toNat % 128), by omega, by omega, hfit, and127 x, shl7 _ i (by omega) hi (fun h => by have := h9 h; omega), or64 i V _ hV hfit, rfl⟩
/-- Uvarint's loop. -/
def UrRel (m : List UInt8) (k g : Nat) (w : World) (vv iv : Value) (wr : World) : Prop :=
  ∃ i V : Nat, i ≤ 9 ∧ k + i ≤ m.length ∧ V = uvVal ((m.drop k).take i) ∧ vv = .int .u64 (V : Int) ∧ iv = .int .i64 (i : Int) ∧ uvScan 0 (m.drop k) = uvScan i (m.drop (k + i)) ∧ Frm g w wr ∧ RdAt wr g m k
/-- What a reading function answers. -/
def RdRet {α : Type} (ea : List Addr) (g : Nat) (m : List UInt8) (k : Nat) (val : α → Value) (zero : Value) (r : Rr α) (w : World) (e : Ending) (w' : World) : Prop :=
  Frm g w w' ∧ match r with
    | .ok v j => e = .returned (.tuple #[val v, .nilIface]) ∧ RdAt w' g m j
    | .no i => e = .returned (.tuple #[zero, errI ea i]) ∧ RdAt w' g m k
theorem rdRet_ok {α : Type} {ea : List Addr} {g : Nat} {m : List UInt8} {k : Nat} {val : α → Value} {zero : Value} {r : Rr α} {w w' : World} {v : α} {j : Nat} (hr : r = .ok v j) (hf : Frm g w w') (ha : RdAt w' g m j) : RdRet ea g m k val zero r w (.returned (.tuple #[val v, .nilIface])) w' := by
  subst hr; exact ⟨hf, rfl, ha⟩
theorem rdRet_no {α : Type} {ea : List Addr} {g : Nat} {m : List UInt8} {k : Nat} {val : α → Value} {zero : Value} {r : Rr α} {w w' : World} {i : Nat} (hr : r = .no i) (hf : Frm g w w') (ha : RdAt w' g m k) : RdRet ea g m k val zero r w (.returned (.tuple #[zero, errI ea i])) w' := by
  subst hr; exact ⟨hf, rfl, ha⟩
theorem ruvarint_any (g : Nat) (m : List UInt8) (k : Nat) (w : World) (ea : List Addr) (h : RdAt w g m k) (hE : ErrLowF w g ea) :
    Calls Tryz.prog 61 #[.pointer (some ⟨g, 0, none⟩)] w (RdRet ea g m k (fun v : Nat => .int .u64 (v : Int)) (.int .u64 0) (uvR m k) w) := by
  have hk0 : k ≤ m.length ∧ m.length ≤ 10000000000 := by obtain ⟨A, cap, _, _, h3, h4⟩ := h; exact ⟨h3, h4⟩
  obtain ⟨hkm, hml⟩ := hk0
  have HE := Lib.hid hE
  have H := Lib.hid h
  clear hE h
  go_enter Tryz.func61, Tryz.ntmps61
  go_wp2
  go_loopw [4, 5] (fun vv iv wr => UrRel m k g w vv iv wr) (fun _ iv _ => 10 - (intOf iv).toNat)
  case atStart => exact ⟨0, 0, by omega, by omega, rfl, rfl, rfl, rfl, Frm.refl _ _, H.out⟩
  case round =>
    obtain ⟨i, V, hi, hki, hV, rfl, rfl, hs, hf, hr⟩ := hrel
    have HV := Lib.hid hV
    have HS := Lib.hid hs
    have HF := Lib.hid hf
    have HR := Lib.hid hr
    clear hs hf hr hV
    go_wp2_with fail
    refine (left_any g m k _ HR.out).mono ?_
    rintro e w1 ⟨rfl, hf1, hr1⟩
    have HF1 := Lib.hid (HF.out.trans hf1)
    have HR1 := Lib.hid hr1
    obtain ⟨A, cap, h1, h2, h3, h4⟩ := hr1
    have c0 : w1.cell? ⟨g, 0, none⟩ = some (.int .i64 (k : Int)) := h1.cell 0
    have c2 : w1.cell? ⟨g, 2, none⟩ = some (.slice A m.length cap) := h1.cell 2
    have hfz := h1.frozen 0
    have HB1 := Lib.hid h1
    have H2 := Lib.hid h2
    have cE0 : w1.cell? ⟨1, 0, none⟩ = some (errI ea 0) := (HE.out.below HF1.out.below).cell 0 (by decide)
    have cE1 : w1.cell? ⟨2, 0, none⟩ = some (errI ea 1) := (HE.out.below HF1.out.below).cell 1 (by decide)
    clear h2 hf1 h1
    obtain ⟨d, hd⟩ : ∃ d, d = m.length - k := ⟨_, rfl⟩
    rw [← hd]
    by_cases hlt : k + i < m.length
    · obtain ⟨a, x, rfl, hab, hg, hx⟩ := at_byte' H2.out hlt
      have HU := Lib.hid (uvScan_get i hg)
      have hxl := x.toNat_lt
      have hid : i < d := by omega
      have HD := Lib.hid hd
      obtain ⟨hvs, hvl⟩ := uvVal_next hg
      rw [← HV.out] at hvs hvl
      have HVS := Lib.hid hvs
      clear hd hvs hg
      by_cases hbad : i = 9 ∧ 1 < x.toNat
      · have HR9 : Hid (uvR m k = .no 1) := Lib.hid (uvR_bad (by rw [HS.out, HU.out, if_pos hbad]))
        obtain ⟨h9, hb1⟩ := hbad
        have h9b : ((i : Int) == 9) = true := by rw [beq_iff_eq]; omega
        have hb1' : 1 < (x.toNat : Int) := by omega
        clear hvl h9 hb1
        go_wp2
        go_region
        go_wp2
        go_region
        go_wp2
        go_ret2
        exact rdRet_no HR9.out HF1.out.drew.drew HR1.out.drew.drew
      · have hnb : i = 9 → x.toNat ≤ 1 := fun h => by
          rcases Nat.lt_or_ge 1 x.toNat with h5 | h5
          · exact absurd ⟨h, h5⟩ hbad
          · exact h5
        have HUn := Lib.hid (HU.out.trans (if_neg hbad))
        obtain ⟨y, z, V', hy, hz, hV', ha, hsh, hor, hVV⟩ := uv_step hvl hi hnb
        have HVV := Lib.hid hVV
        have hk9 : i = 9 → (x.toNat : Int) ≤ 1 := fun h => by have := hnb h; omega
        clear hvl hVV hbad hnb
        by_cases hi9 : i = 9
        · have hx1 : (x.toNat : Int) ≤ 1 := hk9 hi9
          have hI9 := Lib.hid hi9
          have h9b : ((i : Int) == 9) = true := by rw [beq_iff_eq]; omega
          clear hk9 hi9
          by_cases hx0 : x.toNat = 0
          · have HE9 : Hid (uvR m k = .no 1) := Lib.hid (uvR_bad (by rw [HS.out, HUn.out, if_neg (by omega), if_pos ⟨hx0, by have := hI9.out; omega⟩]))
            have hx0b : ((x.toNat : Int) == 0) = true := by rw [beq_iff_eq]; omega
            have hi0 : 0 < i := by have := hI9.out; omega
            clear hx0
            go_wp2
            go_region
            go_wp2
            go_region
            go_wp2
            go_ret2
            exact rdRet_no HE9.out HF1.out.drew.drew HR1.out.drew.drew
          · have HE9 : Hid (uvR m k = .ok V' (k + i + 1)) := Lib.hid (by
              rw [uvR_ok (n := i + 1) (by rw [HS.out, HUn.out, if_neg (by omega), if_neg (fun h => hx0 h.1)]), HVS.out, HVV.out]; rfl)
            have hx0b : ((x.toNat : Int) == 0) = false := by rw [beq_eq_false_iff_ne]; omega
            clear hx0
            go_wp2
            go_region
            go_wp2
            go_ret2
            have hset := HR1.out.drew.set_ (k + i + 1) (by omega)
            rw [show ((k + i + 1 : Nat) : Int) = (k : Int) + ((i : Int) + 1) from by omega] at hset
            exact rdRet_ok HE9.out (HF1.out.drew.set_ 0 _) hset
        · have h9b : ((i : Int) == 9) = false := by rw [beq_eq_false_iff_ne]; omega
          have hi8 : i ≤ 8 := by omega
          have HS1 := Lib.hid (HS.out.trans HUn.out)
          clear hk9 hi9
          by_cases hc : 128 ≤ x.toNat
          · have HC := Lib.hid hc
            have hc' : 128 ≤ (x.toNat : Int) := by omega
            clear hc
            go_wp2
            go_region
            go_wp2
            go_roundw
            case rel => exact ⟨i + 1, V', by omega, by omega, by rw [HVS.out, HVV.out], rfl, by go_num, by rw [HS1.out, if_pos HC.out]; rfl, HF1.out.drew, HR1.out.drew⟩
            case measure => simp [intOf]; omega
          · have HC := Lib.hid hc
            have hc' : (x.toNat : Int) < 128 := by omega
            clear hc
            by_cases hx0 : x.toNat = 0
            · have hx0b : ((x.toNat : Int) == 0) = true := by rw [beq_iff_eq]; omega
              by_cases hi0 : 0 < i
              · have HE9 : Hid (uvR m k = .no 1) := Lib.hid (uvR_bad (by rw [HS1.out, if_neg HC.out, if_pos ⟨hx0, hi0⟩]))
                clear hx0
                go_wp2
                go_region
                go_wp2
                go_region
                go_wp2
                go_ret2
                exact rdRet_no HE9.out HF1.out.drew.drew HR1.out.drew.drew
              · have HE9 : Hid (uvR m k = .ok V' (k + i + 1)) := Lib.hid (by
                  rw [uvR_ok (n := i + 1) (by rw [HS1.out, if_neg HC.out, if_neg (fun h => hi0 h.2)]), HVS.out, HVV.out]; rfl)
                clear hx0
                go_wp2
                go_region
                go_wp2
                go_ret2
                have hset := HR1.out.drew.set_ (k + i + 1) (by omega)
                rw [show ((k + i + 1 : Nat) : Int) = (k : Int) + ((i : Int) + 1) from by omega] at hset
                exact rdRet_ok HE9.out (HF1.out.drew.set_ 0 _) hset
            · have HE9 : Hid (uvR m k = .ok V' (k + i + 1)) := Lib.hid (by
                rw [uvR_ok (n := i + 1) (by rw [HS1.out, if_neg HC.out, if_neg (fun h => hx0 h.1)]), HVS.out, HVV.out]; rfl)
              have hx0b : ((x.toNat : Int) == 0) = false := by rw [beq_eq_false_iff_ne]; omega
              clear hx0
              go_wp2
              go_region
              go_wp2
              go_ret2
              have hset := HR1.out.drew.set_ (k + i + 1) (by omega)
              rw [show ((k + i + 1 : Nat) : Int) = (k : Int) + ((i : Int) + 1) from by omega] at hset
              exact rdRet_ok HE9.out (HF1.out.drew.set_ 0 _) hset
    · have HE9 : Hid (uvR m k = .no 0) := Lib.hid (uvR_short (by rw [HS.out, uvScan_end i (by omega)]))
      have hid : d ≤ i := by omega
      clear hd
      go_wp2
      go_region
      go_wp2
      go_ret2
      exact rdRet_no HE9.out HF1.out.drew HR1.out.drew
end Go.Proofs.YtmdpfikalekmlaaGreatDoor
