/- Layer 1, the reference: GetUpto, GetText. -/
import Derived.Test.YtdkalcecmdadeaaDoorRt
import Derived.Test.YtdkalcecmdadeaaDoorRg
namespace Go.Proofs.YtdkalcecmdadeaaDoor
open Go.RowKit
set_option maxRecDepth 100000
set_option maxHeartbeats 1000000
set_option linter.unusedSimpArgs false
set_option linter.unusedVariables false

theorem gupto_any (most : Nat) (hmo : most ≤ 1000000) (x : Value) (m : List UInt8) (k : Nat) (w : World) (B : Nat) (hx : RdL byteS w B x m) (hk : k ≤ m.length) (hm : m.length ≤ 10000000000) :
    Calls Tryd.prog 44 #[x, .int .i64 (k : Int), .int .i64 (most : Int)] w (GtRet k (fun v : Nat => .int .i64 (v : Int)) (.int .i64 0) (uptoR most m k) w) := by
  obtain ⟨A, cap, rfl, h1, h2⟩ := hx.open_
  have HX := Lib.hid hx
  clear hx
  go_enter Tryd.func44, Tryd.ntmps44
  go_wp2_with fail
  refine (guvarint_any (.slice A m.length cap) m k w B HX.out hk hm).mono ?_
  rintro e w1 ⟨rfl, hr⟩
  cases hu : uvR m k with
  | no i =>
    rw [hu] at hr
    have hr2 : e = .returned (.tuple #[.int .u64 0, .int .i64 (k : Int), .int .i64 ((i : Int) + 1)]) := hr
    subst hr2
    have HU : Hid (uptoR most m k = .no i) := Lib.hid (by unfold uptoR; rw [hu])
    have hi := uvR_no hu
    have hib : ((i : Int) + 1 == 0) = false := by rw [beq_eq_false_iff_ne]; omega
    have hi2 : (i : Int) + 1 ≤ 2 := by omega
    clear hr hu hi
    go_wp2
    go_ret3
    exact gtRet_no HU.out
  | ok v j =>
    rw [hu] at hr
    have hr2 : e = .returned (.tuple #[.int .u64 (v : Int), .int .i64 (j : Int), .int .i64 0]) := hr
    subst hr2
    obtain ⟨hj1, hj2, hv⟩ := uvR_le hk hu
    by_cases hb : most < v
    · have HU : Hid (uptoR most m k = .no 2) := Lib.hid (by unfold uptoR; rw [hu]; exact if_pos hb)
      have hb' : (most : Int) < (v : Int) := by omega
      clear hr hu
      go_wp2
      go_ret3
      exact gtRet_no HU.out
    · have HU : Hid (uptoR most m k = .ok v j) := Lib.hid (by unfold uptoR; rw [hu]; exact if_neg hb)
      have hb' : (v : Int) ≤ (most : Int) := by omega
      clear hr hu
      go_wp2
      go_ret3
      exact gtRet_ok (val := fun v : Nat => Value.int .i64 (v : Int)) HU.out
theorem gtext_any (most : Nat) (hmo : most ≤ 1000000) (x : Value) (m : List UInt8) (k : Nat) (w : World) (B : Nat) (hx : RdL byteS w B x m) (hk : k ≤ m.length) (hm : m.length ≤ 10000000000) :
    Calls Tryd.prog 45 #[x, .int .i64 (k : Int), .int .i64 (most : Int)] w (GtRet k (fun v : List UInt8 => .string (str v)) (.string ⟨#[]⟩) (textR most m k) w) := by
  obtain ⟨A, cap, rfl, h1, h2⟩ := hx.open_
  have HX := Lib.hid hx
  clear hx
  go_enter Tryd.func45, Tryd.ntmps45
  go_wp2_with fail
  refine (gupto_any most hmo (.slice A m.length cap) m k w B HX.out hk hm).mono ?_
  rintro e w1 ⟨rfl, hr⟩
  cases hu : uptoR most m k with
  | no i =>
    rw [hu] at hr
    have hr2 : e = .returned (.tuple #[.int .i64 0, .int .i64 (k : Int), .int .i64 ((i : Int) + 1)]) := hr
    subst hr2
    have HU : Hid (textR most m k = .no i) := Lib.hid (by unfold textR; rw [hu])
    have hi := uptoR_no hu
    have hib : ((i : Int) + 1 == 0) = false := by rw [beq_eq_false_iff_ne]; omega
    have hi2 : (i : Int) + 1 ≤ 3 := by omega
    clear hr hu hi
    go_wp2
    go_ret3
    exact gtRet_no HU.out
  | ok n j =>
    rw [hu] at hr
    have hr2 : e = .returned (.tuple #[.int .i64 (n : Int), .int .i64 (j : Int), .int .i64 0]) := hr
    subst hr2
    obtain ⟨hj1, hj2, hn⟩ := uptoR_le hk hu
    by_cases hb : m.length - j < n
    · have HU : Hid (textR most m k = .no 0) := Lib.hid (by unfold textR; rw [hu]; exact if_pos hb)
      have hb' : (m.length : Int) - (j : Int) < (n : Int) := by omega
      clear hr hu
      go_wp2
      go_ret3
      exact gtRet_no HU.out
    · have HU : Hid (textR most m k = .ok ((m.drop j).take n) (j + n)) := Lib.hid (by unfold textR; rw [hu]; exact if_neg hb)
      have hb' : (n : Int) ≤ (m.length : Int) - (j : Int) := by omega
      have hjn : j + n ≤ m.length := by omega
      obtain ⟨a, rfl⟩ : ∃ a, A = some a := by
        obtain ⟨a, e, _⟩ := at_byte HX.out (k := 0) (by omega)
        exact ⟨a, e⟩
      unfold maxLen at h2
      have hcv := RdL.piece2 HX.out j n hjn
      have hcv' := hcv
      rw [Nat.add_sub_cancel_left] at hcv'
      clear hr hu
      go_wp2
      all_goals go_ret3
      all_goals exact gtRet_ok (val := fun v : List UInt8 => Value.string (str v)) HU.out
end Go.Proofs.YtdkalcecmdadeaaDoor
