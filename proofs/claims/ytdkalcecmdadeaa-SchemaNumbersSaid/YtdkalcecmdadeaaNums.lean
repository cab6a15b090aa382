/- The walk of SchemaNumbers. -/
import Derived.Test.YtdkalcecmdadeaaPr
import Derived.Test.YtdkalcecmdadeaaNr
import Derived.OpenShut
namespace Go.Proofs.Ytdkalcecmdadeaa
open Go.RowKit

theorem parse_007 (w : World) : Calls Try.prog 9 #[.string ⟨#[45, 48, 48, 55]⟩] w fun e w' => e = .returned (.tuple #[.int .i64 (-7), .bool true]) ∧ w = w' := by
  have h := parse_any ⟨#[45, 48, 48, 55]⟩ w (by unfold maxLen; simp [ByteArray.size])
  rw [show pnum (ByteArray.mk #[45, 48, 48, 55]).data.toList = (-7, true) from by decide] at h
  exact h

set_option maxHeartbeats 400000 in
theorem numbers_8 (s : ByteArray) (v : Int) (w : World) (hs : s.size ≤ maxLen) (h8 : s.size = 8) :
    Calls Try.prog 5 #[.string s, .int .i64 v] w fun e w' => e = .returned (.bool true) ∧ Below w.heap.size w w' := by
  have c1 := Lib.hid (fun W => parse_any s W hs)
  have c2 := Lib.hid (fun W => refParse_any s W hs)
  have c3 := Lib.hid (fun W => termNumber_8 s W h8)
  have c4 := Lib.hid (fun W => refTermNumber_8 s W h8)
  generalize pnum s.data.toList = r at c1 c2
  generalize topV (foldU s.data.toList) = q at c3 c4
  obtain ⟨n, b⟩ := r
  have e1 : (n != n) = false := by simp
  have e2 : (b != b) = false := by simp
  have e3 : (q == q) = true := by simp
  clear hs h8
  go_enter Try.func5, Try.ntmps5
  go_wp2_with fail
  refine (parse_007 _).mono ?_
  rintro e w1 ⟨rfl, rfl⟩
  go_wp2_with fail
  refine (c1.out _).mono ?_
  rintro e w1 ⟨rfl, rfl⟩
  go_wp2_with fail
  refine (c2.out _).mono ?_
  rintro e w1 ⟨rfl, rfl⟩
  go_wp2_with fail
  refine (c3.out _).mono ?_
  rintro e w1 ⟨rfl, rfl⟩
  go_wp2_with fail
  refine (c4.out _).mono ?_
  rintro e w1 ⟨rfl, rfl⟩
  go_wp2_with fail
  refine (numberTerm_any v _).mono ?_
  rintro e w1 ⟨rfl, hb1⟩
  go_wp2_with fail
  refine (refNumberTerm_any v _).mono ?_
  rintro e w2 ⟨rfl, hb2⟩
  go_wp2
  go_ret
  exact ⟨rfl, hb1.trans (hb2.mono hb1.size)⟩

set_option maxHeartbeats 400000 in
theorem numbers_no (s : ByteArray) (v : Int) (w : World) (hs : s.size ≤ maxLen) (h8 : s.size ≠ 8) :
    Calls Try.prog 5 #[.string s, .int .i64 v] w fun e w' => e = .returned (.bool true) ∧ Below w.heap.size w w' := by
  have c1 := Lib.hid (fun W => parse_any s W hs)
  have c2 := Lib.hid (fun W => refParse_any s W hs)
  have c3 := Lib.hid (fun W => termNumber_no s W h8)
  have c4 := Lib.hid (fun W => refTermNumber_no s W h8)
  generalize pnum s.data.toList = r at c1 c2
  obtain ⟨n, b⟩ := r
  have e1 : (n != n) = false := by simp
  have e2 : (b != b) = false := by simp
  clear hs h8
  go_enter Try.func5, Try.ntmps5
  go_wp2_with fail
  refine (parse_007 _).mono ?_
  rintro e w1 ⟨rfl, rfl⟩
  go_wp2_with fail
  refine (c1.out _).mono ?_
  rintro e w1 ⟨rfl, rfl⟩
  go_wp2_with fail
  refine (c2.out _).mono ?_
  rintro e w1 ⟨rfl, rfl⟩
  go_wp2_with fail
  refine (c3.out _).mono ?_
  rintro e w1 ⟨rfl, rfl⟩
  go_wp2_with fail
  refine (c4.out _).mono ?_
  rintro e w1 ⟨rfl, rfl⟩
  go_wp2_with fail
  refine (numberTerm_any v _).mono ?_
  rintro e w1 ⟨rfl, hb1⟩
  go_wp2_with fail
  refine (refNumberTerm_any v _).mono ?_
  rintro e w2 ⟨rfl, hb2⟩
  go_wp2
  go_ret
  exact ⟨rfl, hb1.trans (hb2.mono hb1.size)⟩

theorem schemaNumbers_walk (a0 : ByteArray) (a1 : Int) (w0 : a0.size ≤ maxLen) (_ : (Lit.int .i64 a1).wf = true) (w : World) :
    Calls Try.prog 5 #[.string a0, .int .i64 a1] w fun e w' => e = .returned (.bool true) ∧ Below w.heap.size w w' := by
  by_cases h : a0.size = 8
  · exact numbers_8 a0 a1 w w0 h
  · exact numbers_no a0 a1 w w0 h
end Go.Proofs.Ytdkalcecmdadeaa
