/- The walk of SchemaOrder: it returns true for every two numbers and every text. -/
import Derived.Test.YtdkalcecmdadeaaNw
import Derived.OpenShut
namespace Go.Proofs.Ytdkalcecmdadeaa
open Go.RowKit

theorem termNumber_of (v : Int) (w : World) (h0 : -9223372036854775808 ≤ v) (h1 : v ≤ 9223372036854775807) :
    Calls Try.prog 7 #[.string (termOf v)] w fun e w' => e = .returned (.tuple #[.int .i64 v, .bool true]) ∧ w = w' :=
  (termNumber_8 (termOf v) w (termOf_size v)).mono fun _ _ h => by rw [term_back h0 h1] at h; exact h

set_option maxHeartbeats 400000 in
theorem order_8 (v u : Int) (s : ByteArray) (w : World) (hv0 : -9223372036854775808 ≤ v) (hv1 : v ≤ 9223372036854775807) (hu0 : -9223372036854775808 ≤ u) (hu1 : u ≤ 9223372036854775807) (h8 : s.size = 8) :
    Calls Try.prog 3 #[.int .i64 v, .int .i64 u, .string s] w fun e w' => e = .returned (.bool true) ∧ Below w.heap.size w w' := by
  have t1 := term_less hv0 hv1 hu0 hu1
  have t2 := term_same hv0 hv1 hu0 hu1
  have c1 := fun x => termNumber_of v x hv0 hv1
  have C1 := Lib.hid c1
  have t5 : ((termOf (topV (foldU s.data.toList))).toList == s.toList) = true := by rw [text_back s h8]; exact beq_self_eq_true _
  have b3 : (v != v) = false := by simp
  have s1 : (((termOf v).size : Int) != 8) = false := by simp [termOf_size]
  have s2 : (((termOf u).size : Int) != 8) = false := by simp [termOf_size]
  have s3 : ((s.size : Int) != 8) = false := by simp [h8]
  have hs8 := Lib.hid h8
  have b1 : (decide (v < u) != decide (v < u)) = false := by simp
  have b2 : ((v == u) != (v == u)) = false := by simp
  clear hv0 hv1 hu0 hu1 h8 c1
  go_enter Try.func3, Try.ntmps3
  go_wp2_with fail
  refine (numberTerm_any v _).mono ?_
  rintro e w1 ⟨rfl, hb1⟩
  go_wp2_with fail
  refine (numberTerm_any u _).mono ?_
  rintro e w2 ⟨rfl, hb2⟩
  go_wp2_with fail
  refine (C1.out _).mono ?_
  rintro e w3 ⟨rfl, rfl⟩
  go_wp2_with fail
  refine (termNumber_8 s _ hs8.out).mono ?_
  rintro e w3 ⟨rfl, rfl⟩
  go_wp2_with fail
  refine (numberTerm_any _ _).mono ?_
  rintro e w3 ⟨rfl, hb3⟩
  go_wp2
  go_ret
  exact ⟨rfl, (hb1.trans (hb2.mono hb1.size)).trans (hb3.mono (Nat.le_trans hb1.size hb2.size))⟩

set_option maxHeartbeats 400000 in
theorem order_no (v u : Int) (s : ByteArray) (w : World) (hv0 : -9223372036854775808 ≤ v) (hv1 : v ≤ 9223372036854775807) (hu0 : -9223372036854775808 ≤ u) (hu1 : u ≤ 9223372036854775807) (h8 : s.size ≠ 8) :
    Calls Try.prog 3 #[.int .i64 v, .int .i64 u, .string s] w fun e w' => e = .returned (.bool true) ∧ Below w.heap.size w w' := by
  have t1 := term_less hv0 hv1 hu0 hu1
  have t2 := term_same hv0 hv1 hu0 hu1
  have c1 := fun x => termNumber_of v x hv0 hv1
  have C1 := Lib.hid c1
  have b3 : (v != v) = false := by simp
  have s1 : (((termOf v).size : Int) != 8) = false := by simp [termOf_size]
  have s2 : (((termOf u).size : Int) != 8) = false := by simp [termOf_size]
  have s3 : ((s.size : Int) != 8) = true := by simp; omega
  have hs8 := Lib.hid h8
  have b1 : (decide (v < u) != decide (v < u)) = false := by simp
  have b2 : ((v == u) != (v == u)) = false := by simp
  clear hv0 hv1 hu0 hu1 h8 c1
  go_enter Try.func3, Try.ntmps3
  go_wp2_with fail
  refine (numberTerm_any v _).mono ?_
  rintro e w1 ⟨rfl, hb1⟩
  go_wp2_with fail
  refine (numberTerm_any u _).mono ?_
  rintro e w2 ⟨rfl, hb2⟩
  go_wp2_with fail
  refine (C1.out _).mono ?_
  rintro e w3 ⟨rfl, rfl⟩
  go_wp2_with fail
  refine (termNumber_no s _ hs8.out).mono ?_
  rintro e w3 ⟨rfl, rfl⟩
  go_wp2
  go_ret
  exact ⟨rfl, hb1.trans (hb2.mono hb1.size)⟩

theorem schemaOrder_walk (a0 a1 : Int) (a2 : ByteArray) (w0 : (Lit.int .i64 a0).wf = true) (w1 : (Lit.int .i64 a1).wf = true) (_ : a2.size ≤ maxLen) (w : World) :
    Calls Try.prog 3 #[.int .i64 a0, .int .i64 a1, .string a2] w fun e w' => e = .returned (.bool true) ∧ Below w.heap.size w w' := by
  have b0 := bounds_i64 w0
  have b1 := bounds_i64 w1
  by_cases h : a2.size = 8
  · exact order_8 a0 a1 a2 w b0.1 b0.2 b1.1 b1.2 h
  · exact order_no a0 a1 a2 w b0.1 b0.2 b1.1 b1.2 h
end Go.Proofs.Ytdkalcecmdadeaa
