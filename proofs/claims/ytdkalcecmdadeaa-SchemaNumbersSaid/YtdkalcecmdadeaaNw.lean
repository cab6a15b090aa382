/- The walks of schema.NumberTerm and schema.TermNumber. -/
import Derived.Test.YtdkalcecmdadeaaRows
import Derived.Test.YtdkalcecmdadeaaNum
namespace Go.Proofs.Ytdkalcecmdadeaa
open Go.RowKit

def cellsU (U : Int) (k : Nat) : Array Value := Array.ofFn (n := 8) fun i => if i.val < k then .int .u8 (byteU U i.val) else .int .u8 0
theorem cellsU_get (U : Int) (k i : Nat) (hi : i < 8) : (cellsU U k)[i]? = some (if i < k then .int .u8 (byteU U i) else .int .u8 0) := by
  unfold cellsU; rw [Array.getElem?_ofFn]; simp [hi]
theorem cellsU_set (U : Int) (k : Nat) (hk : k < 8) : (cellsU U k).setIfInBounds k (.int .u8 (byteU U k)) = cellsU U (k + 1) := by
  apply Array.ext_getElem?
  intro i
  by_cases hi : i < 8
  · rw [Array.getElem?_setIfInBounds, cellsU_get _ _ _ hi, cellsU_get _ _ _ hi]
    by_cases e : k = i
    · subst e; simp [cellsU, hk]
    · rw [if_neg e]
      by_cases h2 : i < k
      · rw [if_pos h2, if_pos (by omega)]
      · rw [if_neg h2, if_neg (by omega)]
  · rw [Array.getElem?_eq_none (by simp [cellsU]; omega), Array.getElem?_eq_none (by simp [cellsU]; omega)]
theorem cellsU_zero (U : Int) : cellsU U 0 = #[.int .u8 0, .int .u8 0, .int .u8 0, .int .u8 0, .int .u8 0, .int .u8 0, .int .u8 0, .int .u8 0] := by
  apply Array.ext_getElem?
  intro i
  by_cases hi : i < 8
  · rw [cellsU_get _ _ _ hi, if_neg (by omega)]
    match i, hi with
    | 0, _ => rfl
    | 1, _ => rfl
    | 2, _ => rfl
    | 3, _ => rfl
    | 4, _ => rfl
    | 5, _ => rfl
    | 6, _ => rfl
    | 7, _ => rfl
  · rw [Array.getElem?_eq_none (by simp [cellsU]; omega), Array.getElem?_eq_none (by simp; omega)]

set_option maxHeartbeats 400000 in
theorem numberTerm_any (v : Int) (w : World) :
    Calls Try.prog 6 #[.int .i64 v] w fun e w' => e = .returned (.string (termOf v)) ∧ Below w.heap.size w w' := by
  go_enter Try.func6, Try.ntmps6
  go_wp2
  generalize hU : bits _ _ _ _ = U
  have hU2 : topU v = U := hU
  have HU := Lib.hid hU2; clear hU hU2
  go_loopw [9] (fun i wr => ∃ k : Nat, k ≤ 8 ∧ i = .int .i64 k ∧ wr = w.alloc (.cells (cellsU U k) 30)) (fun i _ => 8 - (intOf i).toNat)
  case atStart => exact ⟨0, by omega, rfl, by rw [cellsU_zero]⟩
  case round =>
    obtain ⟨k, hk, rfl, rfl⟩ := hrel
    by_cases hlt : k < 8
    · have hc : (cellsU U k)[k]? = some (.int .u8 0) := by rw [cellsU_get _ _ _ hlt]; simp
      go_wp2
      go_roundw
      case rel => exact ⟨k + 1, by omega, by go_num, by rw [← cellsU_set U k hlt]; rfl⟩
      case measure => simp [intOf]; omega
    · have hconv := run_convert_bytes_arg (P := Try.prog) (w.alloc (.cells (cellsU U k) 30)) 26 5 Try.underlying26 Try.underlying5 w.heap.size 0 8 8 (bytesU U) (bytesU_length U)
        (fun i hi => by rw [bytesU_getD U i hi, World.cell?_alloc_new, Nat.zero_add, cellsU_get U k i hi, if_pos (by omega)]) 9 Try.underlying9
      have HC := Lib.hid hconv; clear hconv
      go_wp2_with fail
      simp only [HC.out, Result.andThen]
      go_wp2
      go_ret
      exact ⟨by unfold termOf; rw [HU.out]; rfl, (Below.refl _ _).alloc (Nat.le_refl _) _⟩

set_option maxHeartbeats 400000 in
theorem termNumber_8 (s : ByteArray) (w : World) (h8 : s.size = 8) :
    Calls Try.prog 7 #[.string s] w fun e w' => e = .returned (.tuple #[.int .i64 (topV (foldU s.data.toList)), .bool true]) ∧ w = w' := by
  have hne : ((s.size : Int) != 8) = false := by simp [h8]
  have hsz : s.size ≤ 8 := by omega
  have hsz2 : 8 ≤ s.size := by omega
  clear h8
  go_enter Try.func7, Try.ntmps7
  go_wp2
  go_loop [4, 11] (fun u i => ∃ k : Nat, k ≤ s.size ∧ i = .int .i64 k ∧ u = .int .u64 (foldU (s.data.toList.take k))) (fun _ i => 8 - (intOf i).toNat)
  case atStart => exact ⟨0, by omega, rfl, rfl⟩
  case round =>
    obtain ⟨k, hk, rfl, rfl⟩ := hrel
    by_cases hlt : k < s.size
    · go_wp2
      go_roundw
      case rel => exact ⟨k + 1, by omega, by go_num, congrArg _ (by rw [or_byte _ _ (foldU_take_bd s k (by omega)).1 (foldU_take_bd s k (by omega)).2, ← foldU_take s k hlt])⟩
      case measure => simp [intOf]; omega
    · go_wp2
      go_ret2
      have e : s.data.toList.take k = s.data.toList := List.take_of_length_le (by rw [← ba_size]; omega)
      exact ⟨by rw [topV, IntWalk.i64_left, e]; rfl, rfl⟩

theorem termNumber_no (s : ByteArray) (w : World) (h8 : s.size ≠ 8) :
    Calls Try.prog 7 #[.string s] w fun e w' => e = .returned (.tuple #[.int .i64 0, .bool false]) ∧ w = w' := by
  have hne : ((s.size : Int) != 8) = true := by simp; omega
  clear h8
  go_enter Try.func7, Try.ntmps7
  go_wp2
  go_ret2
  exact ⟨rfl, rfl⟩
end Go.Proofs.Ytdkalcecmdadeaa
