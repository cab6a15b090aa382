/- Small lemmas on lists, bytes and worlds that all texts of this seat use. -/
import Derived.WalkKit
import Derived.WalkSpells
import Derived.WalkLawsBesides
import Derived.Lib.Hide
import Derived.Lib.Strings
import Derived.Deep.QuietTactic
import Derived.BigQuiet
import Derived.Deep.RegionWith
import Derived.Deep.RegionHeld3
import Derived.StillTailTactics
import Derived.Deep.DeepCutAuto
import Derived.Deep.DeepFit
import Derived.Deep.LoopGhost
import Derived.Deep.DeepMust
namespace Go.Proofs.YtmdpfikalekmlaaGreatDoor
open Go.RowKit

theorem snoc_ind {α : Type} {p : List α → Prop} (h0 : p []) (h1 : ∀ l a, p l → p (l ++ [a])) : ∀ l, p l := by
  intro l
  rw [← List.reverse_reverse l]
  induction l.reverse with
  | nil => exact h0
  | cons a l ih => rw [List.reverse_cons]; exact h1 _ _ ih

theorem u8_lt (b : UInt8) : (b.toNat : Int) < 256 := by have := b.toNat_lt; omega
theorem bcell {W w1 : World} (hb : Below W.heap.size W w1) : (∀ b o, b < W.heap.size → w1.cell? ⟨b, o, none⟩ = W.cell? ⟨b, o, none⟩) ∧ (∀ b o, b < W.heap.size → w1.frozen? ⟨b, o, none⟩ = W.frozen? ⟨b, o, none⟩) :=
  ⟨fun b o h => hb.cell (p := ⟨b, o, none⟩) h, fun b o h => hb.frozen (p := ⟨b, o, none⟩) h⟩
/-- Two steps one behind the other. -/
theorem Bel2 {a b c : World} (h : Below a.heap.size a b) (k : Below b.heap.size b c) : Below a.heap.size a c := h.trans (k.mono h.size)
theorem ba_ext {a b : ByteArray} (h : a.data.toList = b.data.toList) : a = b := by
  cases a; cases b; congr 1; exact Array.toList_inj.1 h
theorem ba_toList (a : ByteArray) : a.toList = a.data.toList := Lib.toList_data a
theorem ba_size (a : ByteArray) : a.size = a.data.toList.length := by rw [Array.length_toList]; rfl
/-- A slice of bytes that has just been built, turned to a string. -/
theorem conv_lit {P : Program} (src e T : TypeId) (hs : P.underlying src = some (.slice e)) (he : P.underlying e = some (.int .u8)) (dst : TypeId) (hd : P.underlying dst = some .string) (xs : List Int) (n : Nat) (hn : xs.length = n) (W : World) :
    (convert src dst (.slice (some ⟨W.heap.size, 0, none⟩) n n)).run P (W.alloc (.cells (xs.map (Value.int .u8)).toArray T)) = .ok (.string (strOfNums xs)) (W.alloc (.cells (xs.map (Value.int .u8)).toArray T)) := by
  subst hn
  refine run_convert_bytes_arg (P := P) (W.alloc (.cells (xs.map (Value.int .u8)).toArray T)) src e hs he W.heap.size 0 xs.length xs.length xs rfl (fun i hi => ?_) dst hd
  rw [World.cell?_alloc_new, Nat.zero_add]
  simp [List.getD, hi]
/-- The string of one byte. -/
def chr (c : Int) : ByteArray := strOfNums [c]
theorem conv_one {P : Program} (src e T : TypeId) (hs : P.underlying src = some (.slice e)) (he : P.underlying e = some (.int .u8)) (dst : TypeId) (hd : P.underlying dst = some .string) (W : World) (x : Int) :
    (convert src dst (.slice (some ⟨W.heap.size, 0, none⟩) 1 1)).run P (W.alloc (.cells #[.int .u8 x] T)) = .ok (.string (chr x)) (W.alloc (.cells #[.int .u8 x] T)) :=
  conv_lit src e T hs he dst hd [x] 1 rfl W
theorem conv_one_drew {P : Program} (src e T : TypeId) (hs : P.underlying src = some (.slice e)) (he : P.underlying e = some (.int .u8)) (dst : TypeId) (hd : P.underlying dst = some .string) (W : World) (x : Int) :
    (convert src dst (.slice (some ⟨W.heap.size, 0, none⟩) 1 1)).run P (W.alloc (.cells #[.int .u8 x] T)).drew = .ok (.string (chr x)) (W.alloc (.cells #[.int .u8 x] T)).drew :=
  conv_one src e T hs he dst hd W.drew x
/-- Slices and sums of strings, at every world. -/
theorem slice_to {P : Program} (T : TypeId) (hT : P.underlying T = some .string) (s : ByteArray) (a : Nat) (h : a ≤ s.size) (W : World) :
    (Instr.slice T (.string s) none (some (.int .i64 (a : Int))) none).run P W = .ok (.string (s.extract 0 a)) W :=
  run_slice_string_h (P := P) (t := T) (s := s) (w := W) hT .i64 (a : Int) (by omega) (by omega)
theorem slice_from {P : Program} (T : TypeId) (hT : P.underlying T = some .string) (s : ByteArray) (a : Nat) (h : a ≤ s.size) (W : World) :
    (Instr.slice T (.string s) (some (.int .i64 (a : Int))) none none).run P W = .ok (.string (s.extract a s.size)) W :=
  run_slice_string_l (P := P) (t := T) (s := s) (w := W) hT .i64 (a : Int) (by omega) (by omega)
theorem str_add {P : Program} (a b : ByteArray) (h : a.size + b.size ≤ 9223372036854775807) (W : World) : (Op.stringOp .add a b).run P W = .ok (.string (a ++ b)) W :=
  run_string_add_sum (P := P) (w := W) a b h
theorem chr_size (c : Int) : (chr c).size = 1 := rfl
theorem chr_data (c : Int) : (chr c).data.toList = [UInt8.ofNat c.toNat] := rfl
theorem ba_append (a b : ByteArray) : (a ++ b).data.toList = a.data.toList ++ b.data.toList := by simp
theorem ba_append_size (a b : ByteArray) : (a ++ b).size = a.size + b.size := by simp
end Go.Proofs.YtmdpfikalekmlaaGreatDoor
