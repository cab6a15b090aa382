/- The walk of SchemaDecimals. -/
import Derived.Test.YtdkalcecmdadeaaDecl
import Derived.Test.YtdkalcecmdadeaaDw
import Derived.OpenShut
namespace Go.Proofs.Ytdkalcecmdadeaa
open Go.RowKit

theorem parse_eq (s : ByteArray) (w : World) {n : Int} {b : Bool} (h : pnum s.data.toList = (n, b)) (hs : s.size ≤ 1000000) :
    Calls Try.prog 9 #[.string s] w fun e w' => e = .returned (.tuple #[.int .i64 n, .bool b]) ∧ w = w' := by
  have := parse_any s w (by unfold maxLen; omega)
  rw [h] at this
  exact this
theorem IsDec_size {v : Int} {s : ByteArray} (h : IsDec v s) : s.size ≤ 20 ∧ 1 ≤ s.size ∧ (v < 0 → 2 ≤ s.size) := by
  obtain ⟨ds, e, h1, h2, h3, h4⟩ := h
  have h5 : 1 ≤ ds.length := by cases ds; exact absurd rfl h1; simp
  rw [ba_size, e]
  split
  · simp; omega
  · rename_i hv; exact ⟨by omega, by omega, fun h => absurd h hv⟩

theorem spoilt_parses {v at_ c : Int} {L : ByteArray} (hL : IsLong v L) (hLs : L.size ≤ 3000) (ha : 0 ≤ at_ ∧ at_ < L.size) (hc : 0 ≤ c ∧ c ≤ 255 ∧ (c < 48 ∨ 57 < c)) (hx : ¬ (at_ = 0 ∧ c = 45 ∧ 0 ≤ v)) (w : World) :
    Calls Try.prog 9 #[.string (L.extract 0 at_.toNat ++ chr c ++ L.extract at_.toNat L.size)] w fun e w' => e = .returned (.tuple #[.int .i64 0, .bool false]) ∧ w = w' := by
  obtain ⟨a, rfl⟩ := Int.eq_ofNat_of_zero_le ha.1
  rw [Int.toNat_natCast]
  refine parse_eq _ w ?_ ?_
  · have hcc : (UInt8.ofNat c.toNat).toNat = c.toNat := by rw [UInt8.toNat_ofNat']; omega
    have h := long_spoilt hL a (by omega) (UInt8.ofNat c.toNat) (by simp [isDig, hcc]; omega) (by
      rintro ⟨e1, e2, e3⟩
      have : c.toNat = 45 := by rw [← hcc, e2]; rfl
      exact hx ⟨by omega, by omega, by omega⟩)
    rw [ba_append, ba_append, chr_data, Lib.extract_data, Lib.extract_data, List.drop_zero, Nat.sub_zero]
    rw [List.take_of_length_le (l := L.data.toList.drop a) (by rw [List.length_drop, ← ba_size]; omega)]
    exact h
  · rw [ba_append_size, ba_append_size, chr_size, ByteArray.size_extract, ByteArray.size_extract]; omega

/-- The law stops here: the byte is a digit, or the place is none, or a minus is put ahead of a number that has none. -/
def skipB (v at_ c : Int) (n : Nat) : Bool := decide ((48 ≤ c ∧ c ≤ 57) ∨ at_ < 0 ∨ (n : Int) ≤ at_ ∨ (at_ = 0 ∧ c = 45 ∧ 0 ≤ v))
theorem skip_eq {v at_ c : Int} {n : Nat} {b : Bool} (h : b = true ↔ ((48 ≤ c ∧ c ≤ 57) ∨ at_ < 0 ∨ (n : Int) ≤ at_ ∨ (at_ = 0 ∧ c = 45 ∧ 0 ≤ v))) : Value.bool b = .bool (skipB v at_ c n) := by
  rw [show b = skipB v at_ c n from by rw [Bool.eq_iff_iff, h]; simp [skipB]]

set_option maxRecDepth 100000 in
set_option maxHeartbeats 1000000 in
theorem decimals_go (v n at_ c : Int) (w : World) (h0 : -9223372036854775808 ≤ v) (h1 : v ≤ 9223372036854775807) (k : Nat) (hn : n = k) (hk : k ≤ 2000) (hc0 : 0 ≤ c) (hc1 : c ≤ 255) :
    Calls Try.prog 4 #[.int .i64 v, .int .i64 n, .int .i64 at_, .int .u8 c] w fun e w' => e = .returned (.bool true) ∧ Below w.heap.size w w' := by
  subst hn
  have hvv : (v != v) = false := by simp
  have hn1 : decide ((k : Int) < 0) = false := by simp
  go_enter Try.func4, Try.ntmps4
  go_wp2_with fail
  refine (decimal_any v _ h0 h1).mono ?_
  rintro e w1 hD
  obtain ⟨s, rfl, hdec, hb1⟩ := hD
  have HD := Lib.hid hdec
  have HP := Lib.hid (parse_eq s w1 (dec_parses hdec h0 h1) (by have := IsDec_size hdec; omega))
  obtain ⟨hs1, hs2, hs3⟩ := IsDec_size hdec
  clear hdec
  go_wp2_with fail
  refine (HP.out).mono ?_
  rintro e w2 ⟨rfl, rfl⟩
  go_wp2
  go_loop [12, 13] (fun z i => ∃ (j : Nat) (zs : ByteArray), j ≤ k ∧ zs.size ≤ j ∧ zs.data.toList = List.replicate j 48 ∧ z = .string zs ∧ i = .int .i64 j) (fun _ i => k - (intOf i).toNat)
  case atStart => exact ⟨0, ⟨#[]⟩, by omega, by simp [ByteArray.size], rfl, rfl, rfl⟩
  case round =>
    obtain ⟨j, zs, hj, hz, hzs, rfl, rfl⟩ := hrel
    have HZ := Lib.hid hzs; clear hzs
    by_cases hlt : j < k
    · go_wp2
      go_round
      case rel => exact ⟨j + 1, zs ++ ⟨#[48]⟩, by omega, by rw [ba_append_size, show (ByteArray.mk #[48]).size = 1 from rfl]; omega, by rw [ba_append, HZ.out, List.replicate_succ'], rfl, by go_num⟩
      case measure => simp [intOf]; omega
    · obtain rfl : j = k := by omega
      have hzl : zs.size ≤ 2000 := by omega
      clear hj hk hlt hz
      go_upto_if 46 with (fail)
      go_cut [14] (fun s14 wx => ∃ L : ByteArray, s14 = .string L ∧ IsLong v L ∧ L.size ≤ 3000 ∧ w1 = wx)
      case first =>
        by_cases hv : v < 0
        · have hs4 := hs3 hv
          clear hs3
          have HS := Lib.hid (long_neg HD.out HZ.out hv)
          go_wp2_with fail
          go_meet
          exact ⟨_, rfl, HS.out, by rw [ba_append_size, ba_append_size, show (ByteArray.mk #[45]).size = 1 from rfl, ByteArray.size_extract]; omega, rfl⟩
        · clear hs3
          have HS := Lib.hid (long_pos HD.out HZ.out hv)
          go_wp2_with fail
          go_meet
          exact ⟨_, rfl, HS.out, by rw [ba_append_size]; omega, rfl⟩
      case rest =>
        obtain ⟨L, rfl, hL, hLs, rfl⟩ := hcut
        have HP2 := Lib.hid (parse_eq L w1 (long_parses hL h0 h1) (by omega))
        have HL := Lib.hid hL
        clear hL hs3 HD HZ hzl hs1 hs2
        go_wp2_with fail
        refine HP2.out.mono ?_
        rintro e w2 ⟨rfl, rfl⟩
        clear HP2
        go_upto_region 18 with (fail)
        go_cut [91] (fun s91 wx => s91 = .bool (skipB v at_ c L.size) ∧ w1 = wx)
        case first =>
          have hcases : (48 ≤ c ∧ c ≤ 57) ∨ ((c < 48 ∨ 57 < c) ∧ (at_ < 0 ∨ (0 ≤ at_ ∧ (L.size : Int) ≤ at_) ∨ (0 ≤ at_ ∧ at_ < L.size ∧ ((at_ == 0) = false ∨ ((at_ == 0) = true ∧ (c == 45) = false) ∨ ((at_ == 0) = true ∧ (c == 45) = true ∧ (decide (0 ≤ v) = true ∨ decide (0 ≤ v) = false)))))) := by
            simp; omega
          rcases hcases with ⟨g1, g2⟩ | ⟨g1 | g1, g2 | ⟨g2, g3⟩ | ⟨g2, g3, g4 | ⟨g4, g5⟩ | ⟨g4, g5, g6 | g6⟩⟩⟩
          all_goals (go_wp2; try (go_meet; exact ⟨skip_eq (by simp at *; omega), rfl⟩))
        case rest =>
          obtain ⟨rfl, rfl⟩ := hcut
          generalize hB2 : skipB v at_ c L.size = B
          cases B
          rotate_left
          · clear hB2
            go_wp2
            go_ret; exact ⟨rfl, hb1⟩
          · have hB3 : ¬ _ := of_decide_eq_false hB2
            obtain ⟨a, rfl⟩ := Int.eq_ofNat_of_zero_le (show 0 ≤ at_ by omega)
            have HS := Lib.hid (spoilt_parses HL.out hLs (at_ := (a : Int)) ⟨by omega, by omega⟩ ⟨hc0, hc1, by omega⟩ (by omega))
            rw [Int.toNat_natCast] at HS
            have hat5 : a < L.size := by omega
            clear hB3
            have hcv := fun (W : World) (x : Int) => conv_one_drew (P := Try.prog) 26 5 5 Try.underlying26 Try.underlying5 9 Try.underlying9 W x
            have hx1 : (L.extract 0 a).size ≤ 3000 := by rw [ByteArray.size_extract]; omega
            have hx2 : (L.extract a L.size).size ≤ 3000 := by rw [ByteArray.size_extract]; omega
            have q1 := slice_to (P := Try.prog) 9 Try.underlying9 L a (by omega)
            have q2 := slice_from (P := Try.prog) 9 Try.underlying9 L a (by omega)
            have q3 := str_add (P := Try.prog) (L.extract 0 a) (chr c) (by rw [chr_size]; omega)
            have q4 := str_add (P := Try.prog) (L.extract 0 a ++ chr c) (L.extract a L.size) (by rw [ba_append_size, chr_size]; omega)
            clear hx1 hx2
            go_wp2_with fail
            go_region_with (go_at_call 9; refine (HS.out _).mono ?_; rintro e w2 ⟨rfl, rfl⟩)
            all_goals go_wp2
            all_goals go_ret
            all_goals exact ⟨rfl, (hb1.alloc hb1.size _).drew⟩

theorem decimals_out (v n at_ c : Int) (w : World) (h0 : -9223372036854775808 ≤ v) (h1 : v ≤ 9223372036854775807) (hn : n < 0 ∨ 2000 < n) :
    Calls Try.prog 4 #[.int .i64 v, .int .i64 n, .int .i64 at_, .int .u8 c] w fun e w' => e = .returned (.bool true) ∧ Below w.heap.size w w' := by
  have hvv : (v != v) = false := by simp
  rcases hn with hn | hn
  · go_enter Try.func4, Try.ntmps4
    go_wp2_with fail
    refine (decimal_any v _ h0 h1).mono ?_
    rintro e w1 hD
    obtain ⟨s, rfl, hdec, hb1⟩ := hD
    have HP := Lib.hid (parse_eq s w1 (dec_parses hdec h0 h1) (by have := IsDec_size hdec; omega))
    clear hdec
    go_wp2_with fail
    refine (HP.out).mono ?_
    rintro e w2 ⟨rfl, rfl⟩
    go_wp2
    go_ret
    exact ⟨rfl, hb1⟩
  · have hn2 : 0 ≤ n := by omega
    go_enter Try.func4, Try.ntmps4
    go_wp2_with fail
    refine (decimal_any v _ h0 h1).mono ?_
    rintro e w1 hD
    obtain ⟨s, rfl, hdec, hb1⟩ := hD
    have HP := Lib.hid (parse_eq s w1 (dec_parses hdec h0 h1) (by have := IsDec_size hdec; omega))
    clear hdec
    go_wp2_with fail
    refine (HP.out).mono ?_
    rintro e w2 ⟨rfl, rfl⟩
    go_wp2
    go_ret
    exact ⟨rfl, hb1⟩

theorem schemaDecimals_walk (a0 a1 a2 a3 : Int) (w0 : (Lit.int .i64 a0).wf = true) (_ : (Lit.int .i64 a1).wf = true) (_ : (Lit.int .i64 a2).wf = true) (w3 : (Lit.int .u8 a3).wf = true) (w : World) :
    Calls Try.prog 4 #[.int .i64 a0, .int .i64 a1, .int .i64 a2, .int .u8 a3] w fun e w' => e = .returned (.bool true) ∧ Below w.heap.size w w' := by
  have b0 := bounds_i64 w0
  have b3 := bounds_u8 w3
  by_cases hn : a1 < 0 ∨ 2000 < a1
  · exact decimals_out a0 a1 a2 a3 w b0.1 b0.2 hn
  · obtain ⟨k, rfl⟩ := Int.eq_ofNat_of_zero_le (show 0 ≤ a1 by omega)
    exact decimals_go a0 k a2 a3 w b0.1 b0.2 k rfl (by omega) b3.1 b3.2
end Go.Proofs.Ytdkalcecmdadeaa
