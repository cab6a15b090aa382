/- The walk of schema.ParseNumber. -/
import Derived.Test.YtdkalcecmdadeaaDoorRows
import Derived.Test.YtdkalcecmdadeaaDoorDec
namespace Go.Proofs.YtdkalcecmdadeaaDoor
open Go.RowKit

set_option maxHeartbeats 400000 in
theorem cutMinus_yes (s : ByteArray) (w : World) (h1 : 1 ≤ s.size) (h2 : (s.extract 0 1).toList == [45]) :
    Calls Tryd.prog 56 #[.string s, .string ⟨#[45]⟩] w fun e w' => e = .returned (.tuple #[.string (s.extract 1 s.size), .bool true]) ∧ w = w' := by
  go_enter Tryd.func56, Tryd.ntmps56
  go_wp2
  go_ret2
  exact ⟨rfl, rfl⟩
set_option maxHeartbeats 400000 in
theorem cutMinus_no (s : ByteArray) (w : World) (h2 : 1 ≤ s.size → ((s.extract 0 1).toList == [45]) = false) :
    Calls Tryd.prog 56 #[.string s, .string ⟨#[45]⟩] w fun e w' => e = .returned (.tuple #[.string s, .bool false]) ∧ w = w' := by
  by_cases h1 : 1 ≤ s.size
  · have h3 := h2 h1
    clear h2
    go_enter Tryd.func56, Tryd.ntmps56
    go_wp2
    go_ret2
    exact ⟨rfl, rfl⟩
  · clear h2
    go_enter Tryd.func56, Tryd.ntmps56
    go_wp2
    go_ret2
    exact ⟨rfl, rfl⟩

set_option maxHeartbeats 400000 in
theorem parse_core (s d : ByteArray) (m : Bool) (w : World) (hs : d.size ≤ 9223372036854775807)
    (hcut : ∀ W, Calls Tryd.prog 56 #[.string s, .string ⟨#[45]⟩] W fun e w' => e = .returned (.tuple #[.string d, .bool m]) ∧ W = w') :
    Calls Tryd.prog 48 #[.string s] w fun e w' => e = .returned (.tuple #[.int .i64 (pres d.data.toList m).1, .bool (pres d.data.toList m).2]) ∧ w = w' := by
  have HC := Lib.hid hcut; clear hcut
  go_enter Tryd.func48, Tryd.ntmps48
  go_wp2_with fail
  refine (HC.out _).mono ?_
  rintro e w1 ⟨rfl, rfl⟩
  by_cases h0 : d.toList.isEmpty = true
  · go_wp2
    go_ret2
    exact ⟨ret_pair (pres_nil h0), rfl⟩
  · go_wp2
    go_loop [6, 18] (fun v i => ∃ k : Nat, k ≤ d.size ∧ okPart (d.data.toList.take k) ∧ i = .int .i64 k ∧ v = .int .i64 (-(dval (d.data.toList.take k) : Int))) (fun _ i => d.size - (intOf i).toNat)
    case atStart => exact ⟨0, by omega, okPart_zero, rfl, rfl⟩
    case round =>
      obtain ⟨k, hk, hp, rfl, rfl⟩ := hrel
      have HP := Lib.hid hp; clear hp
      by_cases hlt : k < d.size
      · go_wp2
        · go_ret2
          exact ⟨ret_pair (pres_byte hlt (by omega)), rfl⟩
        · go_ret2
          exact ⟨ret_pair (pres_big hlt (by omega) (by omega) (by assumption)), rfl⟩
        · go_round
          case rel =>
            obtain ⟨e1, e2⟩ := step_in hlt HP.out (by omega) (by omega) (by assumption)
            exact ⟨k + 1, by omega, e2, by go_num, congrArg _ e1⟩
          case measure => simp [intOf]; omega
        · go_ret2
          exact ⟨ret_pair (pres_byte hlt (by omega)), rfl⟩
      · have pe := Lib.hid (pres_end hk hlt h0 HP.out)
        go_wp2
        · go_ret2
          exact ⟨ret_pair pe.out.1, rfl⟩
        · go_ret2
          exact ⟨ret_pair (pe.out.2.1 (by assumption)), rfl⟩
        · go_ret2
          exact ⟨ret_pair (pe.out.2.2 (by assumption)), rfl⟩

/-- What ParseNumber answers. -/
def pnum (l : List UInt8) : Int × Bool := if l.head? = some 45 then pres (l.drop 1) true else pres l false
theorem parse_any (s : ByteArray) (w : World) (hs : s.size ≤ maxLen) :
    Calls Tryd.prog 48 #[.string s] w fun e w' => e = .returned (.tuple #[.int .i64 (pnum s.data.toList).1, .bool (pnum s.data.toList).2]) ∧ w = w' := by
  unfold maxLen at hs
  have e1 : 1 ≤ s.size → ((s.extract 0 1).toList == [45]) = decide (s.data.toList.head? = some 45) := by
    intro h
    rw [ba_toList, Lib.extract_data]
    cases hl : s.data.toList with
    | nil => rw [ba_size, hl] at h; simp at h
    | cons c t => rw [Bool.eq_iff_iff]; simp
  unfold pnum
  by_cases h : s.data.toList.head? = some 45
  · rw [if_pos h]
    have h1 : 1 ≤ s.size := by
      rw [ba_size]
      cases hl : s.data.toList with
      | nil => rw [hl] at h; simp at h
      | cons c t => simp
    have e2 : (s.extract 1 s.size).data.toList = s.data.toList.drop 1 := by
      rw [Lib.extract_data, List.take_of_length_le]; rw [ba_size, List.length_drop]; omega
    have h3 := parse_core s (s.extract 1 s.size) true w (by rw [ba_size, e2, List.length_drop, ← ba_size]; omega) (fun W => cutMinus_yes s W h1 (by rw [e1 h1]; simp [h]))
    rw [e2] at h3
    exact h3
  · rw [if_neg h]
    exact parse_core s s false w (by omega) (fun W => cutMinus_no s W (fun h1 => by rw [e1 h1]; simp [h]))
end Go.Proofs.YtdkalcecmdadeaaDoor
