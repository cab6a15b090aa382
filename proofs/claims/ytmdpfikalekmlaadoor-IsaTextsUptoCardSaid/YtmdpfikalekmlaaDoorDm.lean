/- Layer 20, the document: decimal. -/
import Derived.Test.YtmdpfikalekmlaaDoorIl
import Derived.Test.YtmdpfikalekmlaaDoorRow
namespace Go.Proofs.YtmdpfikalekmlaaDoor
open Go.RowKit
set_option maxRecDepth 100000
set_option maxHeartbeats 1000000
set_option linter.unusedSimpArgs false
set_option linter.unusedVariables false

def preD (u : Nat) : List UInt8 := if u < 10 then [] else dgt (u / 10)
theorem dgt_pre (u : Nat) : dgt u = preD u ++ [UInt8.ofNat (48 + u % 10)] := by
  unfold preD
  by_cases h : u < 10
  · rw [if_pos h, dgt_small h, Nat.mod_eq_of_lt h]; rfl
  · rw [if_neg h, dgt_big h]
theorem preD_small {u : Nat} (h : u < 10) : preD u = [] := by unfold preD; rw [if_pos h]
theorem preD_big {u : Nat} (h : ¬ u < 10) : preD u = preD (u / 10) ++ [UInt8.ofNat (48 + u / 10 % 10)] := by
  rw [← dgt_pre]; unfold preD; rw [if_neg h]
def DmRel (v : Nat) (w : World) (nv sv : Value) (wr : World) : Prop := ∃ (u : Nat) (s : List UInt8), u ≤ v ∧ nv = .int .u64 (u : Int) ∧ sv = .string (str s) ∧ dgt v = preD u ++ s ∧ Below w.heap.size w wr
theorem chr_dig (u : Nat) : chr (48 + (u : Int) % 10) = str [UInt8.ofNat (48 + u % 10)] := by
  have e : (48 + (u : Int) % 10).toNat = 48 + u % 10 := by omega
  show strOfNums [48 + (u : Int) % 10] = _
  unfold strOfNums str
  simp [e]
theorem decimal_any (v : Nat) (hv : v < 18446744073709551616) (w : World) :
    Calls Tryd.prog 46 #[.int .u64 (v : Int)] w fun e w' => e = .returned (.string (str (dgt v))) ∧ Below w.heap.size w w' := by
  go_enter Tryd.func46, Tryd.ntmps46
  have cv := fun (x : Int) W => conv_one (P := Tryd.prog) 24 5 5 Tryd.underlying24 Tryd.underlying5 9 Tryd.underlying9 W x
  go_wp2
  go_loopw [0, 3] (fun nv sv wr => DmRel v w nv sv wr) (fun nv _ _ => (intOf nv).toNat)
  case atStart => exact ⟨v, [UInt8.ofNat (48 + v % 10)], Nat.le_refl _, rfl, by rw [chr_dig], dgt_pre v, (Below.refl _ _).alloc (Nat.le_refl _) _⟩
  case round =>
    obtain ⟨u, s, hu, rfl, rfl, hd, hb⟩ := hrel
    have HD := Lib.hid hd; have HB := Lib.hid hb
    have hsl : s.length ≤ 20 := by
      have h := dgt_len v hv
      rw [hd, List.length_append] at h
      omega
    clear hd hb
    by_cases hlt : 10 ≤ u
    · have q := fun W => str_add (P := Tryd.prog) (chr (48 + (u : Int) / 10 % 10)) (str s) (by rw [chr_size, str_size]; omega) W
      have HN := Lib.hid (show dgt v = preD (u / 10) ++ ([UInt8.ofNat (48 + u / 10 % 10)] ++ s) from by rw [← List.append_assoc, ← preD_big (by omega)]; exact HD.out)
      have HE := Lib.hid (show chr (48 + ((u / 10 : Nat) : Int) % 10) ++ str s = str ([UInt8.ofNat (48 + u / 10 % 10)] ++ s) from by rw [chr_dig, str_cat2])
      go_wp2
      go_roundw
      case rel =>
        refine ⟨u / 10, [UInt8.ofNat (48 + u / 10 % 10)] ++ s, by omega, by go_num, ?_, HN.out, HB.out.alloc HB.out.size _⟩
        rw [← HE.out]; rfl
      case measure => simp [intOf]; omega
    · have HE := Lib.hid (show str s = str (dgt v) from by rw [HD.out, preD_small (by omega)]; rfl)
      go_wp2
      go_ret
      exact ⟨by rw [HE.out]; rfl, HB.out⟩
end Go.Proofs.YtmdpfikalekmlaaDoor
