/- strings.Cut at a separator of one byte. -/
import Derived.Shelf.Strings.Search1
import Derived.Test.YtmdpfikalekmlaaGreatDoorOwn
namespace Go.Proofs.YtmdpfikalekmlaaGreatDoor
open Go.RowKit
set_option maxRecDepth 100000
set_option maxHeartbeats 1000000
set_option linter.unusedSimpArgs false

def lays217_ren : Go.Shelf.Ren := ⟨fun | 217 => 109 | 266 => 117 | n => n, fun | 9 => 9 | 5 => 5 | 3 => 3 | n => n, fun | n => n⟩
theorem lays217 : Go.Proofs.Lays.n217 Tryz.prog lays217_ren := {
  mixed := by kernel_rfl
  f217 := Tryz.func109.trans (congrArg some (by kernel_rfl))
  f266 := Tryz.func117.trans (congrArg some (by kernel_rfl))
  t3 := Tryz.underlying3
  a3 := Tryz.isAgg3
  z3 := Tryz.sizeOf3
  v3 := Tryz.zeroValue3
  t5 := Tryz.underlying5
  a5 := Tryz.isAgg5
  z5 := Tryz.sizeOf5
  v5 := Tryz.zeroValue5
  t9 := Tryz.underlying9
  a9 := Tryz.isAgg9
  z9 := Tryz.sizeOf9
  v9 := Tryz.zeroValue9 }
theorem indexByte_any (s : ByteArray) (c : UInt8) (w : World) :
    Calls Tryz.prog 109 #[.string s, .int .u8 (c.toNat : Int)] w fun e w' => e = .returned (.int .i64 (Lib.indexByte s.data.toList c)) ∧ w = w' := by
  have h := Go.Proofs.Any.stringslite_IndexByte lays217 s (c.toNat : Int) w
  refine h.mono ?_
  rintro e w' ⟨rfl, rfl⟩
  refine ⟨?_, rfl⟩
  simp

/-- What stands ahead of the first c, what behind it, and whether there is one. -/
def cutL (c : UInt8) : List UInt8 → List UInt8 × List UInt8 × Bool
  | [] => ([], [], false)
  | b :: l => if b = c then ([], l, true) else (b :: (cutL c l).1, (cutL c l).2.1, (cutL c l).2.2)
theorem ixb_ge : ∀ (l : List UInt8) (c : UInt8), -1 ≤ Lib.indexByte l c
  | [], _ => by unfold Lib.indexByte; omega
  | b :: l, c => by
    have := ixb_ge l c
    unfold Lib.indexByte
    split
    · omega
    · split <;> omega
theorem cutL_none {c : UInt8} : ∀ {l : List UInt8}, Lib.indexByte l c = -1 → cutL c l = (l, [], false)
  | [], _ => rfl
  | b :: l, h => by
    unfold Lib.indexByte at h
    by_cases hb : b = c
    · subst hb; simp at h
    · have hb' : (b == c) = false := beq_eq_false_iff_ne.2 hb
      rw [hb'] at h
      by_cases hi : Lib.indexByte l c = -1
      · rw [cutL, if_neg hb, cutL_none hi]
      · have hi' : (Lib.indexByte l c == -1) = false := beq_eq_false_iff_ne.2 hi
        rw [hi'] at h
        simp only [Bool.false_eq_true, if_false] at h
        have := ixb_ge l c
        omega
theorem cutL_some {c : UInt8} : ∀ {l : List UInt8} {i : Nat}, Lib.indexByte l c = (i : Int) → i < l.length ∧ cutL c l = (l.take i, l.drop (i + 1), true)
  | [], i, h => by unfold Lib.indexByte at h; omega
  | b :: l, i, h => by
    unfold Lib.indexByte at h
    by_cases hb : b = c
    · subst hb
      simp only [beq_self_eq_true, if_true] at h
      obtain rfl : i = 0 := by omega
      exact ⟨by simp, by rw [cutL, if_pos rfl]; rfl⟩
    · have hb' : (b == c) = false := beq_eq_false_iff_ne.2 hb
      rw [hb'] at h
      simp only [Bool.false_eq_true, if_false] at h
      split at h
      · omega
      · rename_i hi
        have hg := ixb_ge l c
        have hi2 : Lib.indexByte l c ≠ -1 := by simpa using hi
        obtain ⟨j, hj⟩ : ∃ j : Nat, Lib.indexByte l c = (j : Int) := ⟨(Lib.indexByte l c).toNat, by omega⟩
        obtain ⟨h1, h2⟩ := cutL_some hj
        obtain rfl : i = j + 1 := by omega
        exact ⟨by simp; omega, by rw [cutL, if_neg hb, h2]; rfl⟩
theorem index1_any (s : ByteArray) (c : UInt8) (w : World) :
    Calls Tryz.prog 96 #[.string s, .string ⟨#[c]⟩] w fun e w' => e = .returned (.int .i64 (Lib.indexByte s.data.toList c)) ∧ w = w' := by
  by_cases hs : ([c] == s.toList) = true
  · have HN := Lib.hid (show Lib.indexByte s.data.toList c = 0 from by
      have e : [c] = s.data.toList := by rw [← ba_toList]; exact beq_iff_eq.1 hs
      rw [← e]; simp [Lib.indexByte])
    go_enter Tryz.func96, Tryz.ntmps96
    go_wp2
    go_ret
    exact ⟨by rw [HN.out]; rfl, rfl⟩
  · have hs' : ([c] == s.toList) = false := by simpa using hs
    clear hs
    go_enter Tryz.func96, Tryz.ntmps96
    go_wp2_with fail
    refine (indexByte_any s c _).mono ?_
    rintro e w' ⟨rfl, rfl⟩
    go_wp2
    go_ret
    exact ⟨rfl, rfl⟩
/-- What Cut hands back. -/
def CutRet (s : ByteArray) (c : UInt8) (w : World) (e : Ending) (w' : World) : Prop :=
  (e = .returned (.tuple #[.string (str (cutL c s.data.toList).1), .string (str (cutL c s.data.toList).2.1), .bool (cutL c s.data.toList).2.2])) ∧ ∃ n, w' = w.drewN n
theorem str_self (s : ByteArray) : str s.data.toList = s := by unfold str; exact ba_ext rfl
theorem str_take (s : ByteArray) (i : Nat) : str (s.data.toList.take i) = s.extract 0 i := by
  apply ba_ext; rw [Lib.extract_data]; simp [str_data]
theorem str_drop (s : ByteArray) (i : Nat) : str (s.data.toList.drop i) = s.extract i s.size := by
  apply ba_ext
  rw [Lib.extract_data, str_data, List.take_of_length_le]
  rw [List.length_drop, ← ba_size]; exact Nat.le_refl _
theorem cutRet_none {s : ByteArray} {c : UInt8} {w : World} {n : Nat} (h : Lib.indexByte s.data.toList c = -1) : CutRet s c w (.returned (.tuple #[.string s, .string ⟨#[]⟩, .bool false])) (w.drewN n) := by
  unfold CutRet
  rw [cutL_none h, str_self]
  exact ⟨rfl, n, rfl⟩
theorem cutRet_some {s : ByteArray} {c : UInt8} {w : World} {n i : Nat} (h : Lib.indexByte s.data.toList c = (i : Int)) : CutRet s c w (.returned (.tuple #[.string (s.extract 0 i), .string (s.extract (i + 1) s.size), .bool true])) (w.drewN n) := by
  unfold CutRet
  rw [(cutL_some h).2]
  simp only []
  rw [str_take, str_drop]
  exact ⟨rfl, n, rfl⟩
theorem lcut_any (s : ByteArray) (c : UInt8) (w : World) (hs : s.size ≤ 1000000000000) :
    Calls Tryz.prog 98 #[.string s, .string ⟨#[c]⟩] w (CutRet s c w) := by
  have hg := ixb_ge s.data.toList c
  by_cases hi : Lib.indexByte s.data.toList c = -1
  · have HI := Lib.hid hi
    go_enter Tryz.func98, Tryz.ntmps98
    go_wp2_with fail
    refine (index1_any s c _).mono ?_
    rintro e w' ⟨rfl, rfl⟩
    rw [HI.out]
    go_wp2
    go_ret3
    exact cutRet_none (n := 0) HI.out
  · obtain ⟨i, hi2⟩ : ∃ i : Nat, Lib.indexByte s.data.toList c = (i : Int) := ⟨(Lib.indexByte s.data.toList c).toNat, by omega⟩
    have hlt := (cutL_some hi2).1
    rw [← ba_size] at hlt
    have HI := Lib.hid hi2
    clear hi hi2 hg
    have f1 := fun W => slice_to 9 Tryz.underlying9 s i (by omega) W
    have f2 := fun W => slice_from 9 Tryz.underlying9 s (i + 1) (by omega) W
    go_enter Tryz.func98, Tryz.ntmps98
    go_wp2_with fail
    refine (index1_any s c _).mono ?_
    rintro e w' ⟨rfl, rfl⟩
    rw [HI.out]
    go_wp2
    go_quiet (fail)
    go_wp2
    go_ret3
    exact cutRet_some HI.out
theorem cut_any (s : ByteArray) (c : UInt8) (w : World) (hs : s.size ≤ 1000000000000) :
    Calls Tryz.prog 79 #[.string s, .string ⟨#[c]⟩] w (CutRet s c w) := by
  go_enter Tryz.func79, Tryz.ntmps79
  go_wp2_with fail
  refine (lcut_any s c w hs).mono ?_
  rintro e w' ⟨rfl, n, rfl⟩
  go_wp2
  go_ret3
  exact ⟨rfl, n, rfl⟩
/-- The same, the world under a name of its own. -/
theorem cutB_any (s : ByteArray) (c : UInt8) (w : World) (hs : s.size ≤ 1000000000000) :
    Calls Tryz.prog 79 #[.string s, .string ⟨#[c]⟩] w fun e w' => e = .returned (.tuple #[.string (str (cutL c s.data.toList).1), .string (str (cutL c s.data.toList).2.1), .bool (cutL c s.data.toList).2.2]) ∧ Below w.heap.size w w' := by
  refine (cut_any s c w hs).mono ?_
  rintro e w' ⟨rfl, n, rfl⟩
  have h := Below.refl w.heap.size w
  exact ⟨rfl, h.os, h.tape, h.output, h.size, h.block⟩
end Go.Proofs.YtmdpfikalekmlaaGreatDoor
