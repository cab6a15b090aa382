/- The walks of the reference's NumberTerm and TermNumber. -/
import Derived.Test.YtdkalcecmdadeaaNw
import Derived.Test.YtdkalcecmdadeaaOwn
namespace Go.Proofs.Ytdkalcecmdadeaa
open Go.RowKit

theorem topU_add (v : Int) : IntKind.u64.wrap (IntKind.u64.wrap v + 9223372036854775808) = topU v := by
  unfold topU
  rw [IntKind.wrap_u64, IntKind.wrap_u64, bits_xor_top _ (by omega) (by omega)]
  split <;> omega
theorem byteU_bd (U : Int) (k : Nat) : 0 ≤ byteU U k ∧ byteU U k ≤ 255 := by unfold byteU; omega
theorem part_snoc (U : Int) (k : Nat) (hk : k < 8) : (ofNums (bytesU U)).take (k + 1) = (ofNums (bytesU U)).take k ++ [UInt8.ofNat (byteU U k).toNat] := by
  rw [take_snoc _ _ (by simp [ofNums, bytesU_length]; exact hk)]
  simp [ofNums, bytesU]

theorem byteU_tmod (U : Int) (h : 0 ≤ U) (k : Nat) : (U / 2 ^ (56 - 8 * k)).tmod 256 % 256 = byteU U k := by
  unfold byteU
  rw [Int.tmod_eq_emod_of_nonneg (Int.ediv_nonneg h (Int.le_of_lt (Int.pow_pos (by decide)))), Int.emod_emod_of_dvd _ (by decide)]
theorem topU_nonneg (v : Int) : 0 ≤ topU v := by rw [← topU_add, IntKind.wrap_u64]; omega

set_option maxHeartbeats 400000 in
theorem refNumberTerm_any (v : Int) (w : World) :
    Calls Try.prog 12 #[.int .i64 v] w fun e w' => e = .returned (.string (termOf v)) ∧ Below w.heap.size w w' := by
  go_enter Try.func12, Try.ntmps12
  go_wp2
  generalize hU : IntKind.u64.wrap (_ + _) = U
  have HU := Lib.hid ((topU_add v).symm.trans hU); clear hU
  go_loopw [4, 5] (fun b i wr => ∃ k : Nat, k ≤ 8 ∧ i = .int .i64 k ∧ OwnB wr w.heap.size b ((ofNums (bytesU U)).take k) ∧ Below w.heap.size w wr) (fun _ i _ => 8 - (intOf i).toNat)
  case atStart => exact ⟨0, by omega, rfl, OwnB.lit0 w (Nat.le_refl _), (Below.refl _ _).alloc (Nat.le_refl _) _⟩
  case round =>
    obtain ⟨k, hk, rfl, hown, hb⟩ := hrel
    by_cases hlt : k < 8
    · have hl : ((ofNums (bytesU U)).take k).length + 1 ≤ 140737488355328 := by have := List.length_take_le k (ofNums (bytesU U)); omega
      have HL := Lib.hid hl; clear hl
      go_wp2_with (at_builtin; refine OwnB.append hown _ ?_ ?_ rfl _ _ rfl rfl rfl hb.size HL.out ?_)
      · rw [byteU_tmod U (by rw [← HU.out]; exact topU_nonneg v)]; exact (byteU_bd U k).1
      · rw [byteU_tmod U (by rw [← HU.out]; exact topU_nonneg v)]; exact (byteU_bd U k).2
      · intro v' w' h2 h3
        rw [byteU_tmod U (by rw [← HU.out]; exact topU_nonneg v), ← part_snoc U k hlt] at h2
        go_wp2
        go_roundw
        case rel => exact ⟨k + 1, by omega, by go_num, h2, hb.trans h3⟩
        case measure => simp [intOf]; omega
    · have HC := Lib.hid hown.conv
      have e : (ofNums (bytesU U)).take k = ofNums (bytesU U) := List.take_of_length_le (by simp [ofNums, bytesU_length]; omega)
      have HE := Lib.hid e
      clear e
      go_wp2_with fail
      simp only [HC.out, Result.andThen]
      go_wp2
      go_ret
      exact ⟨by rw [HE.out, ← HU.out]; rfl, hb⟩

theorem topV_sub (u : Int) (h0 : 0 ≤ u) (h1 : u < 256 ^ 8) : topV u = wrap64 (IntKind.u64.wrap (u - 9223372036854775808)) := by
  have h2 : u < 18446744073709551616 := h1
  rw [topV_eq u h0 h2, ← IntWalk.i64_left, IntKind.wrap_i64, IntKind.wrap_u64]; omega

set_option maxHeartbeats 400000 in
theorem refTermNumber_8 (s : ByteArray) (w : World) (h8 : s.size = 8) :
    Calls Try.prog 11 #[.string s] w fun e w' => e = .returned (.tuple #[.int .i64 (topV (foldU s.data.toList)), .bool true]) ∧ w = w' := by
  have hne : ((s.size : Int) != 8) = false := by simp [h8]
  have hsz : s.size ≤ 8 := by omega
  have hsz2 : 8 ≤ s.size := by omega
  clear h8
  go_enter Try.func11, Try.ntmps11
  go_wp2
  go_loop [4, 5] (fun u i => ∃ k : Nat, k ≤ s.size ∧ i = .int .i64 k ∧ u = .int .u64 (foldU (s.data.toList.take k))) (fun _ i => 8 - (intOf i).toNat)
  case atStart => exact ⟨0, by omega, rfl, rfl⟩
  case round =>
    obtain ⟨k, hk, rfl, rfl⟩ := hrel
    by_cases hlt : k < s.size
    · have hbd := Lib.hid (foldU_take_bd s k (by omega))
      have hst := Lib.hid (foldU_take s k hlt)
      go_wp2
      go_roundw
      case rel => exact ⟨k + 1, by omega, by go_num, congrArg _ (by have h1 := hbd.out; have h2 := hst.out; have h3 := u8_lt s[k]; simp only [IntKind.wrap_u64] at *; omega)⟩
      case measure => simp [intOf]; omega
    · have e : s.data.toList.take k = s.data.toList := List.take_of_length_le (by rw [← ba_size]; omega)
      have hbd := foldU_bd s.data.toList
      rw [← ba_size, show s.size = 8 from by omega] at hbd
      have HB := Lib.hid hbd; have HE := Lib.hid e
      clear e hbd
      go_wp2
      go_ret2
      refine ⟨?_, rfl⟩
      rw [HE.out, topV_sub _ HB.out.1 HB.out.2]; rfl

theorem refTermNumber_no (s : ByteArray) (w : World) (h8 : s.size ≠ 8) :
    Calls Try.prog 11 #[.string s] w fun e w' => e = .returned (.tuple #[.int .i64 0, .bool false]) ∧ w = w' := by
  have hne : ((s.size : Int) != 8) = true := by simp; omega
  clear h8
  go_enter Try.func11, Try.ntmps11
  go_wp2
  go_ret2
  exact ⟨rfl, rfl⟩
end Go.Proofs.Ytdkalcecmdadeaa
