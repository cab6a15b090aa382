/- Merged for a claim: Wi Spl Cu -/
import Derived.Test.YtmdpfikalekmlaaGreatDoorRq
import Derived.Test.YtmdpfikalekmlaaGreatDoorOwn
import Derived.Lib.ConvBytes
import Derived.Lib.AtoiAllMem
import Derived.Lib.AtoiErrMem
import Derived.Test.YtmdpfikalekmlaaGreatDoorSh
import Derived.Test.YtmdpfikalekmlaaGreatDoorKo2
import Derived.Test.YtmdpfikalekmlaaGreatDoorBlk
import Derived.Shelf.Pu.ToErrorRange
import Derived.Test.YtmdpfikalekmlaaGreatDoorQu
import Derived.Test.YtmdpfikalekmlaaGreatDoorIxb
import Derived.Shelf.Strings.SplitCore
import Derived.Lib.SplitLaws
import Derived.Lib.IndexBytes
import Derived.Lib.CutLaws
import Derived.Lib.CountLaws
import Derived.Test.YtmdpfikalekmlaaGreatDoorMr
import Derived.Test.YtmdpfikalekmlaaGreatDoorYw
section
/- strconv.ParseUint over digits, at 63 and at 64 bits: the inner function. -/
namespace Go.Proofs.YtmdpfikalekmlaaGreatDoor
open Go.RowKit
set_option maxRecDepth 100000
set_option maxHeartbeats 4000000
set_option linter.unusedSimpArgs false
set_option linter.unusedVariables false

theorem undgt_take_le (l : List UInt8) (k : Nat) : undgt (l.take k) ≤ undgt l := by
  induction l using snocR_ind with
  | h0 => simp
  | h1 l c ih =>
    by_cases hk : k ≤ l.length
    · rw [List.take_append_of_le_length hk, undgt_snoc]; omega
    · rw [List.take_of_length_le (by rw [List.length_append, List.length_singleton]; omega)]; exact Nat.le_refl _
theorem undgt_next {l : List UInt8} {k : Nat} (h : k < l.length) : undgt (l.take (k + 1)) = 10 * undgt (l.take k) + (l[k].toNat - 48) := by
  rw [← undgt_snoc, List.take_append_getElem]
/-- What the inner function hands back. -/
def PuRet (top : Nat) (s : List UInt8) : Ending := .returned (if undgt s < top then .tuple #[.int .u64 (undgt s : Int), .nilIface] else .tuple #[.int .u64 ((top - 1 : Nat) : Int), .iface 186 (.int .i64 1)])
theorem puRet_ok {top : Nat} {s : List UInt8} {v : Nat} (h : undgt s = v) (h1 : v < top) : PuRet top s = .returned (.tuple #[.int .u64 (v : Int), .nilIface]) := by
  unfold PuRet; rw [if_pos (by omega), h]
theorem puRet_range {top : Nat} {s : List UInt8} (h : top ≤ undgt s) : PuRet top s = .returned (.tuple #[.int .u64 ((top - 1 : Nat) : Int), .iface 186 (.int .i64 1)]) := by
  unfold PuRet; rw [if_neg (by omega)]

theorem pu63_any (t : ByteArray) (hd : t.data.toList.all isDig = true) (hne : t.size ≠ 0) (hmax : t.size ≤ 1000000000) (w : World) :
    Calls Tryz.prog 113 #[.string t, .int .i64 10, .int .i64 63] w fun e w' => e = PuRet 9223372036854775808 t.data.toList ∧ Below w.heap.size w w' := by
  have hcv := Lib.run_convert_string_bytes (P := Tryz.prog) w 9 26 5 t (u := .string) Tryz.underlying9 Tryz.underlying26 Tryz.underlying5
  have hB : ∀ j, j < t.size → (Lib.bytesWorld w 5 t).cell? ⟨w.heap.size, j, none⟩ = some (.int .u8 (t.data.toList.getD j 0).toNat) := fun j hj => Lib.bytesWorld_cell w 5 t j hj
  have HBl := Lib.hid (Lib.bytesWorld_below w 5 t)
  obtain ⟨W1, hW1⟩ : ∃ W1, W1 = Lib.bytesWorld w 5 t := ⟨_, rfl⟩
  rw [← hW1] at hcv hB HBl
  clear hW1
  have hemp : t.toList.isEmpty = false := by
    rw [← decide_eq_emptyBytes]
    exact decide_eq_false (fun h => hne (by rw [h]; rfl))
  obtain ⟨bs, hL⟩ : ∃ bs, bs = t.data.toList := ⟨_, rfl⟩
  have hLn : bs.length = t.size := by rw [hL]; rfl
  rw [← hL] at hB hd ⊢
  clear hL
  have HD := Lib.hid hd
  clear hd
  go_enter Tryz.func113, Tryz.ntmps113
  go_wp2
  go_loop [12, 13, 101] (fun vu vn vi => ∃ (k acc : Nat) (a : Int), vu = .bool false ∧ vn = .int .u64 a ∧ vi = .int .i64 k ∧ k ≤ t.size ∧ Hid (a = (acc : Int) ∧ acc < 9223372036854775808 ∧ acc = undgt (bs.take k)))
    (fun _ _ vi => t.size - (intOf vi).toNat)
  case atStart => exact ⟨0, 0, 0, rfl, rfl, rfl, by omega, Lib.hid ⟨rfl, by omega, rfl⟩⟩
  case round =>
    obtain ⟨k, acc, a, rfl, rfl, rfl, hk, hh⟩ := hrel
    obtain ⟨ha, hacc, hdec⟩ := hh.out
    clear hh
    have a0 : 0 ≤ a := by omega
    have a1 : a < 9223372036854775808 := by omega
    by_cases hkn : k < t.size
    · have hc := hB k hkn
      have hget : bs.getD k 0 = bs[k]'(by omega) := by simp [List.getD, List.getElem?_eq_getElem (show k < bs.length by omega)]
      rw [hget] at hc
      have hnx := undgt_next (l := bs) (k := k) (by omega)
      have hdg : isDig (bs[k]'(by omega)) = true := List.all_eq_true.1 HD.out _ (List.getElem_mem _)
      have htk := undgt_take_le bs (k + 1)
      rw [← hdec] at hnx
      have hd2 : 48 ≤ (bs[k]'(by omega)).toNat ∧ (bs[k]'(by omega)).toNat ≤ 57 := by simpa [isDig] using hdg
      generalize bs[k]'(by omega) = c at hc hnx hd2
      have hc256 : c.toNat < 256 := c.toNat_lt
      obtain ⟨hd0, hd1⟩ := hd2
      clear hB hget hdg
      by_cases hcut : 1844674407370955162 ≤ acc
      · have HR := Lib.hid (puRet_range (top := 9223372036854775808) (s := bs) (by omega))
        have icut : 1844674407370955162 ≤ a := by omega
        clear hcut hacc ha hnx htk hdec
        go_wp2
        go_ret2
        exact ⟨by rw [HR.out]; rfl, HBl.out⟩
      · by_cases hov : 18446744073709551616 ≤ acc * 10 + (c.toNat - 48)
        · have HR := Lib.hid (puRet_range (top := 9223372036854775808) (s := bs) (by omega))
          have icut : a < 1844674407370955162 := by omega
          have iov : 18446744073709551616 ≤ a * 10 + ((c.toNat : Int) - 48) := by omega
          have hwr : IntKind.u64.wrap (a * 10 + ((c.toNat : Int) - 48)) = a * 10 + ((c.toNat : Int) - 48) - 18446744073709551616 := by
            rw [IntKind.wrap_u64]
            omega
          clear hcut hacc hov ha hnx htk hdec
          go_wp2
          go_ret2
          exact ⟨by rw [HR.out]; rfl, HBl.out⟩
        · by_cases hov2 : 9223372036854775808 ≤ acc * 10 + (c.toNat - 48)
          · have HR := Lib.hid (puRet_range (top := 9223372036854775808) (s := bs) (by omega))
            have icut : a < 1844674407370955162 := by omega
            have iov : a * 10 + ((c.toNat : Int) - 48) < 18446744073709551616 := by omega
            have iov2 : 9223372036854775808 ≤ a * 10 + ((c.toNat : Int) - 48) := by omega
            clear hcut hacc hov hov2 ha hnx htk hdec
            go_wp2
            go_ret2
            exact ⟨by rw [HR.out]; rfl, HBl.out⟩
          · have HN : Hid (a * 10 + ((c.toNat : Int) - 48) = ((acc * 10 + (c.toNat - 48) : Nat) : Int) ∧ acc * 10 + (c.toNat - 48) < 9223372036854775808 ∧ acc * 10 + (c.toNat - 48) = undgt (bs.take (k + 1))) := Lib.hid ⟨by omega, by omega, by omega⟩
            have icut : a < 1844674407370955162 := by omega
            have iov : a * 10 + ((c.toNat : Int) - 48) < 9223372036854775808 := by omega
            clear hcut hacc hov hov2 hdec ha hnx htk
            go_wp2
            refine ⟨⟨k + 1, acc * 10 + (c.toNat - 48), a * 10 + ((c.toNat : Int) - 48), rfl, (by first | rfl | (congr 1; omega)), (by first | rfl | (congr 1; omega)), by omega, HN⟩, by simp [intOf]; omega⟩
    · have hkk : k = t.size := by omega
      subst hkk
      have HE := Lib.hid (puRet_ok (top := 9223372036854775808) (s := bs) (v := acc) (by rw [hdec, List.take_of_length_le (by omega)]) hacc)
      subst ha
      clear hacc a0 a1 hdec
      go_wp2
      go_ret2
      exact ⟨by rw [HE.out]; rfl, HBl.out⟩

theorem pu64_any (t : ByteArray) (hd : t.data.toList.all isDig = true) (hne : t.size ≠ 0) (hmax : t.size ≤ 1000000000) (w : World) :
    Calls Tryz.prog 113 #[.string t, .int .i64 10, .int .i64 64] w fun e w' => e = PuRet 18446744073709551616 t.data.toList ∧ Below w.heap.size w w' := by
  have hcv := Lib.run_convert_string_bytes (P := Tryz.prog) w 9 26 5 t (u := .string) Tryz.underlying9 Tryz.underlying26 Tryz.underlying5
  have hB : ∀ j, j < t.size → (Lib.bytesWorld w 5 t).cell? ⟨w.heap.size, j, none⟩ = some (.int .u8 (t.data.toList.getD j 0).toNat) := fun j hj => Lib.bytesWorld_cell w 5 t j hj
  have HBl := Lib.hid (Lib.bytesWorld_below w 5 t)
  obtain ⟨W1, hW1⟩ : ∃ W1, W1 = Lib.bytesWorld w 5 t := ⟨_, rfl⟩
  rw [← hW1] at hcv hB HBl
  clear hW1
  have hemp : t.toList.isEmpty = false := by
    rw [← decide_eq_emptyBytes]
    exact decide_eq_false (fun h => hne (by rw [h]; rfl))
  obtain ⟨bs, hL⟩ : ∃ bs, bs = t.data.toList := ⟨_, rfl⟩
  have hLn : bs.length = t.size := by rw [hL]; rfl
  rw [← hL] at hB hd ⊢
  clear hL
  have HD := Lib.hid hd
  clear hd
  have hmv : IntKind.u64.wrap (IntKind.u64.wrap 18446744073709551616 - 1) = 18446744073709551615 := by
    rw [IntKind.wrap_u64, IntKind.wrap_u64]
    decide
  go_enter Tryz.func113, Tryz.ntmps113
  go_wp2
  go_loop [12, 13, 101] (fun vu vn vi => ∃ (k acc : Nat) (a : Int), vu = .bool false ∧ vn = .int .u64 a ∧ vi = .int .i64 k ∧ k ≤ t.size ∧ Hid (a = (acc : Int) ∧ acc < 18446744073709551616 ∧ acc = undgt (bs.take k)))
    (fun _ _ vi => t.size - (intOf vi).toNat)
  case atStart => exact ⟨0, 0, 0, rfl, rfl, rfl, by omega, Lib.hid ⟨rfl, by omega, rfl⟩⟩
  case round =>
    obtain ⟨k, acc, a, rfl, rfl, rfl, hk, hh⟩ := hrel
    obtain ⟨ha, hacc, hdec⟩ := hh.out
    clear hh
    have a0 : 0 ≤ a := by omega
    have a1 : a < 18446744073709551616 := by omega
    by_cases hkn : k < t.size
    · have hc := hB k hkn
      have hget : bs.getD k 0 = bs[k]'(by omega) := by simp [List.getD, List.getElem?_eq_getElem (show k < bs.length by omega)]
      rw [hget] at hc
      have hnx := undgt_next (l := bs) (k := k) (by omega)
      have hdg : isDig (bs[k]'(by omega)) = true := List.all_eq_true.1 HD.out _ (List.getElem_mem _)
      have htk := undgt_take_le bs (k + 1)
      rw [← hdec] at hnx
      have hd2 : 48 ≤ (bs[k]'(by omega)).toNat ∧ (bs[k]'(by omega)).toNat ≤ 57 := by simpa [isDig] using hdg
      generalize bs[k]'(by omega) = c at hc hnx hd2
      have hc256 : c.toNat < 256 := c.toNat_lt
      obtain ⟨hd0, hd1⟩ := hd2
      clear hB hget hdg
      by_cases hcut : 1844674407370955162 ≤ acc
      · have HR := Lib.hid (puRet_range (top := 18446744073709551616) (s := bs) (by omega))
        have icut : 1844674407370955162 ≤ a := by omega
        clear hcut hacc ha hnx htk hdec
        go_wp2
        go_ret2
        exact ⟨by rw [HR.out]; rfl, HBl.out⟩
      · by_cases hov : 18446744073709551616 ≤ acc * 10 + (c.toNat - 48)
        · have HR := Lib.hid (puRet_range (top := 18446744073709551616) (s := bs) (by omega))
          have icut : a < 1844674407370955162 := by omega
          have iov : 18446744073709551616 ≤ a * 10 + ((c.toNat : Int) - 48) := by omega
          have hwr : IntKind.u64.wrap (a * 10 + ((c.toNat : Int) - 48)) = a * 10 + ((c.toNat : Int) - 48) - 18446744073709551616 := by
            rw [IntKind.wrap_u64]
            omega
          clear hcut hacc hov ha hnx htk hdec
          go_wp2
          go_ret2
          exact ⟨by rw [HR.out]; rfl, HBl.out⟩
        · have HN : Hid (a * 10 + ((c.toNat : Int) - 48) = ((acc * 10 + (c.toNat - 48) : Nat) : Int) ∧ acc * 10 + (c.toNat - 48) < 18446744073709551616 ∧ acc * 10 + (c.toNat - 48) = undgt (bs.take (k + 1))) := Lib.hid ⟨by omega, by omega, by omega⟩
          have icut : a < 1844674407370955162 := by omega
          have iov : a * 10 + ((c.toNat : Int) - 48) < 18446744073709551616 := by omega
          clear hcut hacc hov hdec ha hnx htk
          go_wp2
          refine ⟨⟨k + 1, acc * 10 + (c.toNat - 48), a * 10 + ((c.toNat : Int) - 48), rfl, (by first | rfl | (congr 1; omega)), (by first | rfl | (congr 1; omega)), by omega, HN⟩, by simp [intOf]; omega⟩
    · have hkk : k = t.size := by omega
      subst hkk
      have HE := Lib.hid (puRet_ok (top := 18446744073709551616) (s := bs) (v := acc) (by rw [hdec, List.take_of_length_le (by omega)]) hacc)
      subst ha
      clear hacc a0 a1 hdec
      go_wp2
      go_ret2
      exact ⟨by rw [HE.out]; rfl, HBl.out⟩
end Go.Proofs.YtmdpfikalekmlaaGreatDoor
/- strconv.ParseUint over digits; isa.whole. -/
namespace Go.Proofs.YtmdpfikalekmlaaGreatDoor
open Go.RowKit
set_option maxRecDepth 100000
set_option maxHeartbeats 4000000
set_option linter.unusedSimpArgs false
set_option linter.unusedVariables false

/-- The variable that ParseUint reads where a number is too great. -/
def PuEnv (w : World) : Prop := ∃ ev, w.cell? ⟨32, 0, none⟩ = some ev ∧ (ev = .nilIface ∨ ∃ te pe, ev = .iface te pe)
theorem PuEnv.below {w w' : World} {B : Nat} (h : PuEnv w) (hg : 32 < B) (hb : Below B w w') : PuEnv w' := by
  obtain ⟨ev, h1, h2⟩ := h
  exact ⟨ev, (hb.cell (p := ⟨32, 0, none⟩) hg).trans h1, h2⟩
theorem PuEnv.lt {w : World} (h : PuEnv w) : 32 < w.heap.size := by
  obtain ⟨ev, h1, h2⟩ := h
  exact Lib.lt_of_cell h1
theorem PuEnv.belowW {w w' : World} (h : PuEnv w) (hb : Below w.heap.size w w') : PuEnv w' := h.below h.lt hb

theorem sPu63_ok (t : ByteArray) (hd : t.data.toList.all isDig = true) (hne : t.size ≠ 0) (hmax : t.size ≤ 1000000000) (w : World) (hE : PuEnv w) (hlt : undgt t.data.toList < 9223372036854775808) :
    Calls Tryz.prog 97 #[.string t, .int .i64 10, .int .i64 63] w fun e w' => e = .returned (.tuple #[.int .u64 (undgt t.data.toList : Int), .nilIface]) ∧ Below w.heap.size w w' := by
  have hI := pu63_any t hd hne hmax w
  have HE := Lib.hid hE
  clear hd hE
  rw [puRet_ok rfl hlt] at hI
  generalize undgt t.data.toList = v at *
  go_enter Tryz.func97, Tryz.ntmps97
  go_wp2_with fail
  refine hI.mono ?_
  rintro e w1 ⟨rfl, hb⟩
  have HB := Lib.hid hb
  clear hb
  go_wp2
  go_ret2
  exact ⟨rfl, HB.out⟩
theorem sPu63_range (t : ByteArray) (hd : t.data.toList.all isDig = true) (hne : t.size ≠ 0) (hmax : t.size ≤ 1000000000) (w : World) (hE : PuEnv w) (hlt : ¬ undgt t.data.toList < 9223372036854775808) :
    Calls Tryz.prog 97 #[.string t, .int .i64 10, .int .i64 63] w fun e w' => (∃ N, e = .returned (.tuple #[.int .u64 9223372036854775807, .iface 187 (.pointer (some ⟨N, 0, none⟩))])) ∧ Below w.heap.size w w' := by
  have hI := pu63_any t hd hne hmax w
  have HE := Lib.hid hE
  clear hd hE
  rw [puRet_range (by omega), show (((9223372036854775808 - 1 : Nat) : Int)) = 9223372036854775807 from rfl] at hI
  clear hlt
  go_enter Tryz.func97, Tryz.ntmps97
  go_wp2_with fail
  refine hI.mono ?_
  rintro e w1 ⟨rfl, hb⟩
  have HB := Lib.hid hb
  obtain ⟨ev, h1, h2⟩ := HE.out.belowW hb
  clear hb
  go_wp2_with fail
  refine (AnyPu.strconv_toError_range { Tryz.laysPu14 with } ⟨#[80, 97, 114, 115, 101, 85, 105, 110, 116]⟩ t 10 63 ev _ (by omega) h1 h2).mono ?_
  rintro e w2 ⟨N, rfl, h3, h4, h5⟩
  have HB2 := Lib.hid (HB.out.trans (h5.mono HB.out.size))
  clear h1 h2 h3 h4 h5
  go_wp2
  go_ret2
  exact ⟨⟨N, rfl⟩, HB2.out⟩

theorem sPu64_ok (t : ByteArray) (hd : t.data.toList.all isDig = true) (hne : t.size ≠ 0) (hmax : t.size ≤ 1000000000) (w : World) (hE : PuEnv w) (hlt : undgt t.data.toList < 18446744073709551616) :
    Calls Tryz.prog 97 #[.string t, .int .i64 10, .int .i64 64] w fun e w' => e = .returned (.tuple #[.int .u64 (undgt t.data.toList : Int), .nilIface]) ∧ Below w.heap.size w w' := by
  have hI := pu64_any t hd hne hmax w
  have HE := Lib.hid hE
  clear hd hE
  rw [puRet_ok rfl hlt] at hI
  generalize undgt t.data.toList = v at *
  go_enter Tryz.func97, Tryz.ntmps97
  go_wp2_with fail
  refine hI.mono ?_
  rintro e w1 ⟨rfl, hb⟩
  have HB := Lib.hid hb
  clear hb
  go_wp2
  go_ret2
  exact ⟨rfl, HB.out⟩
theorem sPu64_range (t : ByteArray) (hd : t.data.toList.all isDig = true) (hne : t.size ≠ 0) (hmax : t.size ≤ 1000000000) (w : World) (hE : PuEnv w) (hlt : ¬ undgt t.data.toList < 18446744073709551616) :
    Calls Tryz.prog 97 #[.string t, .int .i64 10, .int .i64 64] w fun e w' => (∃ N, e = .returned (.tuple #[.int .u64 18446744073709551615, .iface 187 (.pointer (some ⟨N, 0, none⟩))])) ∧ Below w.heap.size w w' := by
  have hI := pu64_any t hd hne hmax w
  have HE := Lib.hid hE
  clear hd hE
  rw [puRet_range (by omega), show (((18446744073709551616 - 1 : Nat) : Int)) = 18446744073709551615 from rfl] at hI
  clear hlt
  go_enter Tryz.func97, Tryz.ntmps97
  go_wp2_with fail
  refine hI.mono ?_
  rintro e w1 ⟨rfl, hb⟩
  have HB := Lib.hid hb
  obtain ⟨ev, h1, h2⟩ := HE.out.belowW hb
  clear hb
  go_wp2_with fail
  refine (AnyPu.strconv_toError_range { Tryz.laysPu14 with } ⟨#[80, 97, 114, 115, 101, 85, 105, 110, 116]⟩ t 10 64 ev _ (by omega) h1 h2).mono ?_
  rintro e w2 ⟨N, rfl, h3, h4, h5⟩
  have HB2 := Lib.hid (HB.out.trans (h5.mono HB.out.size))
  clear h1 h2 h3 h4 h5
  go_wp2
  go_ret2
  exact ⟨⟨N, rfl⟩, HB2.out⟩

theorem wholeL_no {top : Nat} {s : List UInt8} (h : wholeOk s = false) : wholeL top s = none := by unfold wholeL; rw [if_neg (by rw [h]; decide)]
theorem wholeL_ok {top : Nat} {s : List UInt8} (h : wholeOk s = true) (hl : undgt s < top) : wholeL top s = some (undgt s) := by unfold wholeL; rw [if_pos h, if_pos hl]
theorem wholeL_big {top : Nat} {s : List UInt8} (h : wholeOk s = true) (hl : ¬ undgt s < top) : wholeL top s = none := by unfold wholeL; rw [if_pos h, if_neg hl]
theorem not_dig {c : UInt8} (h : isDig c = false) : c.toNat < 48 ∨ 57 < c.toNat := by
  unfold isDig at h
  rcases Nat.lt_or_ge c.toNat 48 with h1 | h1
  · exact .inl h1
  · rcases Nat.lt_or_ge 57 c.toNat with h2 | h2
    · exact .inr h2
    · simp [h1, h2] at h
theorem wholeOk_bad {s : List UInt8} {k : Nat} (hk : k < s.length) (h : isDig s[k] = false) : wholeOk s = false := by
  unfold wholeOk
  have : s.all isDig = false := by rw [List.all_eq_false]; exact ⟨s[k], List.getElem_mem hk, by rw [h]; decide⟩
  rw [this, Bool.and_false]
theorem wholeOk_yes {s : List UInt8} (h0 : s ≠ []) (h1 : ¬ (1 < s.length ∧ s.head? = some 48)) (h2 : s.all isDig = true) : wholeOk s = true := by
  unfold wholeOk
  rw [h2]
  simp only [Bool.and_true, Bool.and_eq_true, decide_eq_true_eq, Bool.not_eq_true', Bool.and_eq_false_iff, decide_eq_false_iff_not]
  refine ⟨h0, ?_⟩
  by_cases h : 1 < s.length
  · exact .inr fun h2 => h1 ⟨h, h2⟩
  · exact .inl h
theorem wholeOk_zero {s : List UInt8} (h1 : 1 < s.length) (h2 : s.head? = some 48) : wholeOk s = false := by
  unfold wholeOk
  rw [decide_eq_true h1, decide_eq_true h2]; simp
/-- What isa.whole hands back: the number, and whether it is one. -/
def WhRet (top : Nat) (s : List UInt8) (e : Ending) : Prop := ∃ v : Int, 0 ≤ v ∧ v < 18446744073709551616 ∧ e = .returned (.tuple #[.int .u64 v, .bool (wholeL top s).isSome]) ∧ ∀ n, wholeL top s = some n → v = (n : Int)
theorem u8_ne' {b c : UInt8} (h : b ≠ c) : ¬ (b.toNat : Int) = (c.toNat : Int) := fun e => h (UInt8.toNat_inj.1 (by omega))
def WhRel (s : List UInt8) (iv : Value) : Prop := ∃ k : Nat, k ≤ s.length ∧ iv = .int .i64 (k : Int) ∧ (s.take k).all isDig = true

theorem whole63_any (t : ByteArray) (hmax : t.size ≤ 1000000000) (w : World) (hE : PuEnv w) :
    Calls Tryz.prog 78 #[.string t, .int .i64 63] w fun e w' => WhRet 9223372036854775808 t.data.toList e ∧ Below w.heap.size w w' := by
  have hls : t.data.toList.length = t.size := rfl
  have HE := Lib.hid hE
  clear hE
  by_cases h0 : t.size = 0
  · have e0 : t.data.toList = [] := List.eq_nil_of_length_eq_zero h0
    have ht : t = ⟨#[]⟩ := by
      apply ByteArray.ext
      exact Array.eq_empty_of_size_eq_zero h0
    subst ht
    clear hls e0 h0
    go_enter Tryz.func78, Tryz.ntmps78
    go_wp2
    go_ret2
    exact ⟨⟨0, by omega, by omega, rfl, fun n h => by cases h⟩, Below.refl _ _⟩
  · have hemp : t.toList.isEmpty = false := by
      rw [← decide_eq_emptyBytes]
      exact decide_eq_false (fun h => h0 (by rw [h]; rfl))
    have hne : ¬ t.toList = [] := fun h => by rw [h] at hemp; cases hemp
    have hp0 : 0 < t.size := by omega
    by_cases hz : 1 < t.size ∧ t[0]'hp0 = 48
    · have HN := Lib.hid (wholeL_no (top := 9223372036854775808) (wholeOk_zero (s := t.data.toList) hz.1 (by
        rw [List.head?_eq_getElem?, List.getElem?_eq_getElem (by omega)]
        exact congrArg some hz.2)))
      have hz1 := hz.1
      have hz2 : ((t[0]'hp0).toNat : Int) = 48 := by rw [hz.2]; rfl
      clear hls hz
      go_enter Tryz.func78, Tryz.ntmps78
      go_wp2
      go_ret2
      exact ⟨⟨0, by omega, by omega, by rw [HN.out]; rfl, fun n h => by rw [HN.out] at h; cases h⟩, Below.refl _ _⟩
    · have HZ := Lib.hid hz
      have hzz : ¬ (1 < t.size) ∨ (1 < t.size ∧ ¬ ((t[0]'hp0).toNat : Int) = 48) := by
        by_cases h1 : 1 < t.size
        · exact .inr ⟨h1, u8_ne' (c := 48) (fun h => hz ⟨h1, h⟩)⟩
        · exact .inl h1
      clear hz hls
      go_enter Tryz.func78, Tryz.ntmps78
      rcases hzz with h1 | ⟨h1, h2⟩
      all_goals
        go_wp2
        go_loop [6] (fun iv => WhRel t.data.toList iv) (fun iv => t.size - (intOf iv).toNat)
        case atStart => exact ⟨0, Nat.zero_le _, rfl, rfl⟩
        case round =>
          obtain ⟨k, hk, rfl, ha⟩ := hrel
          have hk2 : k ≤ t.size := hk
          have HA := Lib.hid ha
          clear ha hk
          by_cases hlt : k < t.size
          · have hkl : k < t.data.toList.length := hlt
            cases hd : isDig t.data.toList[k] with
            | true =>
              have hdd : 48 ≤ t[k].toNat ∧ t[k].toNat ≤ 57 := by simpa [isDig] using (show isDig t[k] = true from hd)
              have hda : (48 : Int) ≤ t[k].toNat := by omega
              have hdb : (t[k].toNat : Int) ≤ 57 := by omega
              have HN := Lib.hid (show (t.data.toList.take (k + 1)).all isDig = true from by
                rw [← List.take_append_getElem hkl, List.all_append, HA.out, Bool.true_and, List.all_cons, hd]; rfl)
              clear hd hdd
              go_wp2
              go_round
              case rel => first | exact ⟨k + 1, hkl, by go_num, HN.out⟩ | exact ⟨_, _, _, ⟨k + 1, hkl, by go_num, HN.out⟩, rfl, rfl, rfl⟩
              case measure => simp [intOf]; omega
            | false =>
              have HN := Lib.hid (wholeL_no (top := 9223372036854775808) (wholeOk_bad hkl hd))
              have hdd := not_dig (show isDig t[k] = false from hd)
              have hx := u8_lt t[k]
              clear hd
              rcases hdd with hdd | hdd
              · have hda : (t[k].toNat : Int) < 48 := by omega
                go_wp2
                go_ret2
                exact ⟨⟨0, by omega, by omega, by rw [HN.out]; rfl, fun n h => by rw [HN.out] at h; cases h⟩, Below.refl _ _⟩
              · have hda : (57 : Int) < t[k].toNat := by omega
                go_wp2
                go_ret2
                exact ⟨⟨0, by omega, by omega, by rw [HN.out]; rfl, fun n h => by rw [HN.out] at h; cases h⟩, Below.refl _ _⟩
          · have hall : t.data.toList.all isDig = true := by
              have := HA.out
              rwa [List.take_of_length_le (show t.data.toList.length ≤ k from by show t.size ≤ k; omega)] at this
            have hwk := wholeOk_yes (s := t.data.toList) (fun h => h0 (by show t.data.toList.length = 0; rw [h]; rfl)) (fun h => HZ.out ⟨h.1, by
              have := h.2
              rw [List.head?_eq_getElem?, List.getElem?_eq_getElem (show 0 < t.data.toList.length from by have := h.1; omega)] at this
              exact Option.some.inj this⟩) hall
            by_cases hv : undgt t.data.toList < 9223372036854775808
            · have HN := Lib.hid (wholeL_ok hwk hv)
              have hI := sPu63_ok t hall h0 hmax w HE.out hv
              generalize hund : undgt t.data.toList = v at *
              clear hund hall hwk
              go_wp2_with fail
              refine hI.mono ?_
              rintro e w1 ⟨rfl, hb⟩
              have HB := Lib.hid hb
              clear hb
              go_wp2
              go_quiet (fail)
              go_wp2
              go_ret2
              exact ⟨⟨(v : Int), by omega, by omega, by rw [HN.out]; rfl, fun n h => by rw [HN.out] at h; cases h; rfl⟩, below_drewN HB.out _⟩
            · have HN := Lib.hid (wholeL_big hwk hv)
              have hI := sPu63_range t hall h0 hmax w HE.out hv
              clear hall hwk hv
              go_wp2_with fail
              refine hI.mono ?_
              rintro e w1 ⟨⟨N, rfl⟩, hb⟩
              have HB := Lib.hid hb
              clear hb
              go_wp2
              go_quiet (fail)
              go_wp2
              go_ret2
              exact ⟨⟨9223372036854775807, by omega, by omega, by rw [HN.out]; rfl, fun n h => by rw [HN.out] at h; cases h⟩, below_drewN HB.out _⟩

theorem whole64_any (t : ByteArray) (hmax : t.size ≤ 1000000000) (w : World) (hE : PuEnv w) :
    Calls Tryz.prog 78 #[.string t, .int .i64 64] w fun e w' => WhRet 18446744073709551616 t.data.toList e ∧ Below w.heap.size w w' := by
  have hls : t.data.toList.length = t.size := rfl
  have HE := Lib.hid hE
  clear hE
  by_cases h0 : t.size = 0
  · have e0 : t.data.toList = [] := List.eq_nil_of_length_eq_zero h0
    have ht : t = ⟨#[]⟩ := by
      apply ByteArray.ext
      exact Array.eq_empty_of_size_eq_zero h0
    subst ht
    clear hls e0 h0
    go_enter Tryz.func78, Tryz.ntmps78
    go_wp2
    go_ret2
    exact ⟨⟨0, by omega, by omega, rfl, fun n h => by cases h⟩, Below.refl _ _⟩
  · have hemp : t.toList.isEmpty = false := by
      rw [← decide_eq_emptyBytes]
      exact decide_eq_false (fun h => h0 (by rw [h]; rfl))
    have hne : ¬ t.toList = [] := fun h => by rw [h] at hemp; cases hemp
    have hp0 : 0 < t.size := by omega
    by_cases hz : 1 < t.size ∧ t[0]'hp0 = 48
    · have HN := Lib.hid (wholeL_no (top := 18446744073709551616) (wholeOk_zero (s := t.data.toList) hz.1 (by
        rw [List.head?_eq_getElem?, List.getElem?_eq_getElem (by omega)]
        exact congrArg some hz.2)))
      have hz1 := hz.1
      have hz2 : ((t[0]'hp0).toNat : Int) = 48 := by rw [hz.2]; rfl
      clear hls hz
      go_enter Tryz.func78, Tryz.ntmps78
      go_wp2
      go_ret2
      exact ⟨⟨0, by omega, by omega, by rw [HN.out]; rfl, fun n h => by rw [HN.out] at h; cases h⟩, Below.refl _ _⟩
    · have HZ := Lib.hid hz
      have hzz : ¬ (1 < t.size) ∨ (1 < t.size ∧ ¬ ((t[0]'hp0).toNat : Int) = 48) := by
        by_cases h1 : 1 < t.size
        · exact .inr ⟨h1, u8_ne' (c := 48) (fun h => hz ⟨h1, h⟩)⟩
        · exact .inl h1
      clear hz hls
      go_enter Tryz.func78, Tryz.ntmps78
      rcases hzz with h1 | ⟨h1, h2⟩
      all_goals
        go_wp2
        go_loop [6] (fun iv => WhRel t.data.toList iv) (fun iv => t.size - (intOf iv).toNat)
        case atStart => exact ⟨0, Nat.zero_le _, rfl, rfl⟩
        case round =>
          obtain ⟨k, hk, rfl, ha⟩ := hrel
          have hk2 : k ≤ t.size := hk
          have HA := Lib.hid ha
          clear ha hk
          by_cases hlt : k < t.size
          · have hkl : k < t.data.toList.length := hlt
            cases hd : isDig t.data.toList[k] with
            | true =>
              have hdd : 48 ≤ t[k].toNat ∧ t[k].toNat ≤ 57 := by simpa [isDig] using (show isDig t[k] = true from hd)
              have hda : (48 : Int) ≤ t[k].toNat := by omega
              have hdb : (t[k].toNat : Int) ≤ 57 := by omega
              have HN := Lib.hid (show (t.data.toList.take (k + 1)).all isDig = true from by
                rw [← List.take_append_getElem hkl, List.all_append, HA.out, Bool.true_and, List.all_cons, hd]; rfl)
              clear hd hdd
              go_wp2
              go_round
              case rel => first | exact ⟨k + 1, hkl, by go_num, HN.out⟩ | exact ⟨_, _, _, ⟨k + 1, hkl, by go_num, HN.out⟩, rfl, rfl, rfl⟩
              case measure => simp [intOf]; omega
            | false =>
              have HN := Lib.hid (wholeL_no (top := 18446744073709551616) (wholeOk_bad hkl hd))
              have hdd := not_dig (show isDig t[k] = false from hd)
              have hx := u8_lt t[k]
              clear hd
              rcases hdd with hdd | hdd
              · have hda : (t[k].toNat : Int) < 48 := by omega
                go_wp2
                go_ret2
                exact ⟨⟨0, by omega, by omega, by rw [HN.out]; rfl, fun n h => by rw [HN.out] at h; cases h⟩, Below.refl _ _⟩
              · have hda : (57 : Int) < t[k].toNat := by omega
                go_wp2
                go_ret2
                exact ⟨⟨0, by omega, by omega, by rw [HN.out]; rfl, fun n h => by rw [HN.out] at h; cases h⟩, Below.refl _ _⟩
          · have hall : t.data.toList.all isDig = true := by
              have := HA.out
              rwa [List.take_of_length_le (show t.data.toList.length ≤ k from by show t.size ≤ k; omega)] at this
            have hwk := wholeOk_yes (s := t.data.toList) (fun h => h0 (by show t.data.toList.length = 0; rw [h]; rfl)) (fun h => HZ.out ⟨h.1, by
              have := h.2
              rw [List.head?_eq_getElem?, List.getElem?_eq_getElem (show 0 < t.data.toList.length from by have := h.1; omega)] at this
              exact Option.some.inj this⟩) hall
            by_cases hv : undgt t.data.toList < 18446744073709551616
            · have HN := Lib.hid (wholeL_ok hwk hv)
              have hI := sPu64_ok t hall h0 hmax w HE.out hv
              generalize hund : undgt t.data.toList = v at *
              clear hund hall hwk
              go_wp2_with fail
              refine hI.mono ?_
              rintro e w1 ⟨rfl, hb⟩
              have HB := Lib.hid hb
              clear hb
              go_wp2
              go_quiet (fail)
              go_wp2
              go_ret2
              exact ⟨⟨(v : Int), by omega, by omega, by rw [HN.out]; rfl, fun n h => by rw [HN.out] at h; cases h; rfl⟩, below_drewN HB.out _⟩
            · have HN := Lib.hid (wholeL_big hwk hv)
              have hI := sPu64_range t hall h0 hmax w HE.out hv
              clear hall hwk hv
              go_wp2_with fail
              refine hI.mono ?_
              rintro e w1 ⟨⟨N, rfl⟩, hb⟩
              have HB := Lib.hid hb
              clear hb
              go_wp2
              go_quiet (fail)
              go_wp2
              go_ret2
              exact ⟨⟨18446744073709551615, by omega, by omega, by rw [HN.out]; rfl, fun n h => by rw [HN.out] at h; cases h⟩, below_drewN HB.out _⟩
end Go.Proofs.YtmdpfikalekmlaaGreatDoor
/- Layer 20: ints. -/
namespace Go.Proofs.YtmdpfikalekmlaaGreatDoor
open Go.RowKit
set_option maxRecDepth 100000
set_option maxHeartbeats 4000000
set_option linter.unusedSimpArgs false
set_option linter.unusedVariables false

/-- What isa.ints hands back. -/
def InRet (r : Option (List Int)) (w : World) (e : Ending) (w' : World) : Prop :=
  (match r with
    | some l => ∃ v, e = .returned (.tuple #[v, .bool true]) ∧ OwnL intS w' w.heap.size v l
    | none => e = .returned (.tuple #[.slice none 0 0, .bool false])) ∧ Below w.heap.size w w'
def InRel (ws : List (List UInt8)) (w : World) (ov iv : Value) (wr : World) : Prop :=
  ∃ (k : Nat) (acc : List Int), k ≤ ws.length ∧ iv = .int .i64 (k : Int) ∧ acc.length ≤ k ∧ OwnL intS wr w.heap.size ov acc ∧ Below w.heap.size w wr ∧ intsL ws = (intsL (ws.drop k)).map (acc ++ ·)
theorem wholeL_lt {top : Nat} {s : List UInt8} {n : Nat} (h : wholeL top s = some n) : n < top := by
  unfold wholeL at h
  split at h
  · split at h
    · cases h; assumption
    · cases h
  · cases h
theorem at_word {w : World} {B : Nat} {A : Option Addr} {n cap : Nat} {ws : List (List UInt8)} (h : RdL strS w B (.slice A n cap) (ws.map str)) {k : Nat} (hk : k < ws.length) :
    ∃ a, A = some a ∧ (a.add k).block < B ∧ w.cell? (a.add k) = some (.string (str ws[k])) := by
  obtain ⟨a, h1, h2, h3⟩ := at_str h (k := k) (by rw [List.length_map]; exact hk)
  refine ⟨a, h1, h2, ?_⟩
  rw [h3, List.getElem_map]
theorem ints_any (A : Option Addr) (n cap : Nat) (ws : List (List UInt8)) (w : World) (B : Nat) (h : RdL strS w B (.slice A n cap) (ws.map str)) (hB : B ≤ w.heap.size) (hsz : ∀ x ∈ ws, x.length ≤ 1000000000) (hlen : ws.length ≤ 1000000001) (hE : PuEnv w) :
    Calls Tryz.prog 45 #[.slice A n cap] w (InRet (intsL ws) w) := by
  obtain ⟨A0, c0, he, hc1, hc2⟩ := h.open_
  injection he with e1 e2 e3
  subst e1 e3
  rw [List.length_map] at e2 hc1
  subst e2
  unfold maxLen at hc2
  have H := Lib.hid h; have HE := Lib.hid hE; have HSZ := Lib.hid hsz
  clear h hE hsz
  go_enter Tryz.func45, Tryz.ntmps45
  go_wp2
  go_loopw [4, 11] (fun ov iv wr => InRel ws w ov iv wr) (fun _ iv _ => ws.length - (intOf iv).toNat)
  case atStart => exact ⟨0, [], Nat.zero_le _, rfl, Nat.le_refl _, OwnL.nil _ _ _, Below.refl _ _, by simp⟩
  case round =>
    obtain ⟨k, acc, hk, rfl, hal, ho, hb, hu⟩ := hrel
    have HO := Lib.hid ho; have HB := Lib.hid hb; have HU := Lib.hid hu
    have hBr := hb.size
    clear ho hb hu
    by_cases hlt : k < ws.length
    · obtain ⟨a, rfl, hab, c0⟩ := at_word (H.out.belowW hB HB.out) hlt
      have hxs : ws[k].length ≤ 1000000000 := HSZ.out _ (List.getElem_mem hlt)
      have hdk : ws.drop k = ws[k] :: ws.drop (k + 1) := List.drop_eq_getElem_cons hlt
      have hI := whole63_any (str ws[k]) (by rw [str_size]; exact hxs) wr (HE.out.belowW HB.out)
      rw [str_data] at hI
      cases hv : wholeL 9223372036854775808 ws[k] with
      | some v =>
        have hvl := wholeL_lt hv
        have HN := Lib.hid (show intsL ws = (intsL (ws.drop (k + 1))).map ((acc ++ [(v : Int)]) ++ ·) from by
          rw [HU.out, hdk, intsL, hv]
          simp only [Option.map_map]
          congr 1
          funext z; simp)
        have HV := Lib.hid hv
        have hal1 : acc.length + 1 ≤ 970000000000 := by omega
        clear hdk hv
        generalize ws[k] = x at *
        go_wp2_with fail
        refine hI.mono ?_
        rintro e w1 ⟨⟨v', -, -, rfl, hvv⟩, hb1⟩
        obtain rfl := hvv v HV.out
        rw [HV.out]
        have HO1 := Lib.hid (HO.out.below hb1)
        have HB1 := Lib.hid (HB.out.trans (hb1.mono hBr))
        have hB1 := HB1.out.size
        clear hb1 hvv
        go_wp2_with (at_builtin; refine OwnL.append intSOk HO1.out (v : Int) rfl _ _ rfl rfl rfl _ rfl hB1 hal1 ?_; intro v5 w5 ho5 hb5; have HO5 := Lib.hid ho5; have HB5 := Lib.hid (HB1.out.trans hb5); clear ho5 hb5)
        go_roundw
        case rel => exact ⟨k + 1, acc ++ [(v : Int)], hlt, by go_num, by rw [List.length_append, List.length_singleton]; omega, HO5.out, HB5.out, HN.out⟩
        case measure => simp [intOf]; omega
      | none =>
        have HN := Lib.hid (show intsL ws = none from by
          rw [HU.out, hdk, intsL, hv]; rfl)
        have HV := Lib.hid hv
        clear hdk hv
        generalize ws[k] = x at *
        go_wp2_with fail
        refine hI.mono ?_
        rintro e w1 ⟨⟨v', hv0, hv1, rfl, -⟩, hb1⟩
        rw [HV.out]
        have HB1 := Lib.hid (HB.out.trans (hb1.mono hBr))
        clear hb1
        go_wp2
        go_ret2
        refine ⟨?_, HB1.out⟩
        rw [HN.out]
        rfl
    · have HN := Lib.hid (show intsL ws = some acc from by
        rw [HU.out, List.drop_eq_nil_of_le (by omega)]
        simp [intsL])
      go_wp2
      go_ret2
      refine ⟨?_, HB.out⟩
      rw [HN.out]
      exact ⟨_, rfl, HO.out⟩
end Go.Proofs.YtmdpfikalekmlaaGreatDoor
end
section
/- strings.Split at a separator of one byte. -/
namespace Go.Proofs.YtmdpfikalekmlaaGreatDoor
open Go.RowKit
set_option maxRecDepth 100000
set_option maxHeartbeats 1000000
set_option linter.unusedSimpArgs false
set_option linter.unusedVariables false

theorem splitS_head (c : UInt8) (b : UInt8) (l : List UInt8) (h : b ≠ c) : ∃ w ws, splitS c l = w :: ws ∧ splitS c (b :: l) = (b :: w) :: ws := by
  cases hs : splitS c l with
  | nil => exact absurd hs (splitS_ne _ _)
  | cons w ws =>
    refine ⟨w, ws, rfl, ?_⟩
    rw [splitS, if_neg h, hs]
theorem splitS_none {c : UInt8} : ∀ {l : List UInt8}, Lib.indexByte l c = -1 → splitS c l = [l]
  | [], _ => rfl
  | b :: l, h => by
    unfold Lib.indexByte at h
    by_cases hb : b = c
    · subst hb; simp at h
    · have hb' : (b == c) = false := beq_eq_false_iff_ne.2 hb
      rw [hb'] at h
      obtain ⟨w, ws, h1, h2⟩ := splitS_head c b l hb
      by_cases hi : Lib.indexByte l c = -1
      · rw [splitS_none hi] at h1
        injection h1 with e1 e2
        rw [h2, ← e1, ← e2]
      · have hi' : (Lib.indexByte l c == -1) = false := beq_eq_false_iff_ne.2 hi
        rw [hi'] at h
        simp only [Bool.false_eq_true, if_false] at h
        have := ixb_ge l c
        omega
theorem splitS_some {c : UInt8} : ∀ {l : List UInt8} {i : Nat}, Lib.indexByte l c = (i : Int) → splitS c l = l.take i :: splitS c (l.drop (i + 1)) ∧ l.count c = 1 + (l.drop (i + 1)).count c
  | [], i, h => by unfold Lib.indexByte at h; omega
  | b :: l, i, h => by
    unfold Lib.indexByte at h
    by_cases hb : b = c
    · subst hb
      simp only [beq_self_eq_true, if_true] at h
      obtain rfl : i = 0 := by omega
      exact ⟨by rw [splitS, if_pos rfl]; rfl, by simp [Nat.add_comm]⟩
    · have hb' : (b == c) = false := beq_eq_false_iff_ne.2 hb
      rw [hb'] at h
      simp only [Bool.false_eq_true, if_false] at h
      split at h
      · omega
      · rename_i hi
        have hg := ixb_ge l c
        have hi2 : Lib.indexByte l c ≠ -1 := by simpa using hi
        obtain ⟨j, hj⟩ : ∃ j : Nat, Lib.indexByte l c = (j : Int) := ⟨(Lib.indexByte l c).toNat, by omega⟩
        obtain ⟨h1, h2⟩ := splitS_some hj
        obtain rfl : i = j + 1 := by omega
        obtain ⟨w, ws, e1, e2⟩ := splitS_head c b l hb
        rw [h1] at e1
        injection e1 with e3 e4
        refine ⟨by rw [e2, ← e3, ← e4]; rfl, ?_⟩
        rw [List.count_cons, hb']
        simpa using h2
theorem count_none {c : UInt8} : ∀ {l : List UInt8}, Lib.indexByte l c = -1 → l.count c = 0
  | [], _ => rfl
  | b :: l, h => by
    unfold Lib.indexByte at h
    by_cases hb : b = c
    · subst hb; simp at h
    · have hb' : (b == c) = false := beq_eq_false_iff_ne.2 hb
      rw [hb'] at h
      by_cases hi : Lib.indexByte l c = -1
      · rw [List.count_cons, hb', count_none hi]; rfl
      · have hi' : (Lib.indexByte l c == -1) = false := beq_eq_false_iff_ne.2 hi
        rw [hi'] at h
        simp only [Bool.false_eq_true, if_false] at h
        have := ixb_ge l c
        omega
theorem indexB1 (s : ByteArray) (c : UInt8) : Lib.indexB s ⟨#[c]⟩ = Lib.indexByte s.data.toList c := Lib.index_one _ _
theorem drop_data (s : ByteArray) (i : Nat) : (s.extract i s.size).data.toList = s.data.toList.drop i := by
  rw [← str_drop]; exact str_data _
theorem countB1 (c : UInt8) : ∀ (n : Nat) (s : ByteArray), s.size ≤ n → Lib.countB s ⟨#[c]⟩ = s.data.toList.count c := by
  intro n
  induction n with
  | zero =>
    intro s hs
    have e : s.data.toList = [] := List.eq_nil_of_length_eq_zero (show s.size = 0 by omega)
    have hi : Lib.indexB s ⟨#[c]⟩ = -1 := by rw [indexB1, e]; rfl
    rw [Lib.countB_miss _ _ hi, e]; rfl
  | succ n ih =>
    intro s hs
    by_cases hi : Lib.indexByte s.data.toList c = -1
    · rw [Lib.countB_miss _ _ ((indexB1 s c).trans hi), count_none hi]
    · have hg := ixb_ge s.data.toList c
      obtain ⟨i, hj⟩ : ∃ i : Nat, Lib.indexByte s.data.toList c = (i : Int) := ⟨(Lib.indexByte s.data.toList c).toNat, by omega⟩
      have hz : (s.extract (i + 1) s.size).size ≤ n := by rw [ByteArray.size_extract]; omega
      rw [Lib.countB_hit s ⟨#[c]⟩ i (Nat.le_refl 1) ((indexB1 s c).trans hj), (splitS_some hj).2]
      show 1 + Lib.countB (s.extract (i + 1) s.size) ⟨#[c]⟩ = _
      rw [ih _ hz, drop_data]
theorem splitB1 (c : UInt8) : ∀ (k : Nat) (s : ByteArray), s.data.toList.count c = k → Lib.splitB ⟨#[c]⟩ 0 k s = (splitS c s.data.toList).map str := by
  intro k
  induction k with
  | zero =>
    intro s hs
    by_cases hi : Lib.indexByte s.data.toList c = -1
    · rw [Lib.splitB_zero, splitS_none hi, List.map_cons, str_self]; rfl
    · have hg := ixb_ge s.data.toList c
      obtain ⟨i, hj⟩ : ∃ i : Nat, Lib.indexByte s.data.toList c = (i : Int) := ⟨(Lib.indexByte s.data.toList c).toNat, by omega⟩
      have := (splitS_some hj).2
      omega
  | succ k ih =>
    intro s hs
    by_cases hi : Lib.indexByte s.data.toList c = -1
    · have := count_none hi
      omega
    · have hg := ixb_ge s.data.toList c
      obtain ⟨i, hj⟩ : ∃ i : Nat, Lib.indexByte s.data.toList c = (i : Int) := ⟨(Lib.indexByte s.data.toList c).toNat, by omega⟩
      obtain ⟨h1, h2⟩ := splitS_some hj
      rw [Lib.splitB_hit _ 0 k s i ((indexB1 s c).trans hj), h1, List.map_cons]
      show s.extract 0 i :: Lib.splitB ⟨#[c]⟩ 0 k (s.extract (i + 1) s.size) = _
      rw [ih _ (by rw [drop_data]; omega), drop_data, str_take]
theorem splitS_length (c : UInt8) (l : List UInt8) : (splitS c l).length = l.count c + 1 := by
  induction l with
  | nil => rfl
  | cons b l ih =>
    by_cases h : b = c
    · subst h
      rw [splitS, if_pos rfl, List.length_cons, ih, List.count_cons, beq_self_eq_true]; simp
    · obtain ⟨w, ws, h1, h2⟩ := splitS_head c b l h
      have h3 : ws.length + 1 = l.count c + 1 := by rw [← ih, h1, List.length_cons]
      rw [h2, List.length_cons, List.count_cons, beq_eq_false_iff_ne.2 h, h3]; simp
theorem sIndex1_any (s : ByteArray) (c : UInt8) (w : World) :
    Calls Tryz.prog 77 #[.string s, .string ⟨#[c]⟩] w fun e w' => e = .returned (.int .i64 (Lib.indexByte s.data.toList c)) ∧ w' = w := by
  go_enter Tryz.func77, Tryz.ntmps77
  go_wp2_with fail
  refine (index1_any s c _).mono ?_
  rintro e w' ⟨rfl, rfl⟩
  go_wp2
  go_ret
  exact ⟨rfl, rfl⟩
def spRow (c : UInt8) (s : ByteArray) : Array Value := (((splitS c s.data.toList).map str).map Value.string).toArray
/-- What a Split of a text makes: a new row of the pieces. -/
def SpRet (c : UInt8) (s : ByteArray) (w : World) (e : Ending) (w' : World) : Prop :=
  e = .returned (.slice (some ⟨w.heap.size, 0, none⟩) (splitS c s.data.toList).length (splitS c s.data.toList).length) ∧ w' = w.alloc (.cells (spRow c s) 9)
theorem genSplit1_any (s : ByteArray) (c : UInt8) (w : World) (hs : s.size ≤ 2000000000) :
    Calls Tryz.prog 44 #[.string s, .string ⟨#[c]⟩, .int .i64 0, .int .i64 (-1)] w (SpRet c s w) := by
  have hcl : s.data.toList.count c ≤ s.size := List.count_le_length
  have hcb := countB1 c s.size s (Nat.le_refl _)
  have h := Any.strings_genSplit_core Tryz.lays221 (by kernel_rfl) s ⟨#[c]⟩ 0 (-1) (s.data.toList.count c + 1) w (by omega) (Nat.le_refl 1) (Nat.zero_le _)
    (fun x cs _ => (sIndex1_any x c _).mono fun e w' h => ⟨by rw [h.1, indexB1], h.2⟩)
    ((Tryz.strings_Count_one s c w).mono fun e w' h => ⟨by rw [h.1, hcb]; rfl, h.2⟩)
    (by decide) (by decide) (by rw [hcb]; generalize s.data.toList.count c = cn at *; rw [if_pos (by decide)]; omega)
  refine h.mono ?_
  rintro e w' ⟨rfl, rfl⟩
  have e1 : Lib.splitB ⟨#[c]⟩ 0 (s.data.toList.count c + 1 - 1) s = (splitS c s.data.toList).map str := splitB1 c _ s rfl
  have e2 := splitS_length c s.data.toList
  unfold SpRet
  rw [e1, List.length_map, e2]
  refine ⟨rfl, ?_⟩
  have e3 : s.data.toList.count c + 1 = ((splitS c s.data.toList).map str).length := by rw [List.length_map, e2]
  rw [e3, Lib.cellsOf_full]
  rfl
theorem split1_any (s : ByteArray) (c : UInt8) (w : World) (hs : s.size ≤ 2000000000) :
    Calls Tryz.prog 18 #[.string s, .string ⟨#[c]⟩] w (SpRet c s w) := by
  go_enter Tryz.func18, Tryz.ntmps18
  go_wp2_with fail
  refine (genSplit1_any s c w hs).mono ?_
  rintro e w' ⟨rfl, rfl⟩
  go_wp2
  go_ret
  exact ⟨rfl, rfl⟩
theorem spRd (c : UInt8) (s : ByteArray) (w : World) (hs : s.size ≤ 2000000000) : RdL strS (w.alloc (.cells (spRow c s) 9)) (w.heap.size + 1) (.slice (some ⟨w.heap.size, 0, none⟩) (splitS c s.data.toList).length (splitS c s.data.toList).length) ((splitS c s.data.toList).map str) := by
  have hl := splitS_length c s.data.toList
  have hcl : s.data.toList.count c ≤ s.size := List.count_le_length
  refine ⟨some ⟨w.heap.size, 0, none⟩, (splitS c s.data.toList).length, by rw [List.length_map], by rw [List.length_map]; exact Nat.le_refl _, by unfold maxLen; omega, fun _ => ⟨_, rfl, Nat.lt_succ_self _, ?_⟩, fun h => by cases h⟩
  intro j u hj
  have e : (⟨w.heap.size, 0, none⟩ : Addr).add j = ⟨w.heap.size, j, none⟩ := by unfold Addr.add; split <;> simp_all
  rw [e, World.cell?_alloc_new]
  have e2 : strS.cells ((splitS c s.data.toList).map str) = ((splitS c s.data.toList).map str).map Value.string := by
    unfold Shape.cells
    rw [List.map_eq_flatMap (f := Value.string)]; rfl
  rw [e2] at hj
  unfold spRow
  simpa using hj
end Go.Proofs.YtmdpfikalekmlaaGreatDoor
end
section
/- Layer 20: the reader's cursor. -/
namespace Go.Proofs.YtmdpfikalekmlaaGreatDoor
open Go.RowKit
set_option maxRecDepth 100000
set_option maxHeartbeats 4000000
set_option linter.unusedSimpArgs false
set_option linter.unusedVariables false

theorem cutS_cutL (c : UInt8) : ∀ l : List UInt8, cutS c l = ((cutL c l).1, (cutL c l).2.1)
  | [] => rfl
  | b :: l => by
    by_cases h : b = c
    · rw [cutS, cutL, if_pos h, if_pos h]
    · rw [cutS, cutL, if_neg h, if_neg h, cutS_cutL c l]
theorem cutL_len (c : UInt8) : ∀ l : List UInt8, (cutL c l).1.length ≤ l.length ∧ (cutL c l).2.1.length ≤ l.length
  | [] => by simp [cutL]
  | b :: l => by
    have := cutL_len c l
    by_cases h : b = c
    · rw [cutL, if_pos h]; simp
    · rw [cutL, if_neg h]
      simp only [List.length_cons]
      omega
theorem OwnL.form3 {α : Type} {S : Shape α} {w : World} {B : Nat} {v : Value} {l : List α} (h : OwnL S w B v l) : ∃ A n cap, v = .slice A n cap := by
  obtain ⟨A, cap, e, _⟩ := h.open_
  exact ⟨A, _, cap, e⟩
/-- What a line's function hands back, of a reader that reads as st. -/
def LnRet (B rb mb : Nat) (w : World) (r : Option Rs) (e : Ending) (w' : World) : Prop :=
  RKeep B rb w w' ∧ match r with
    | some st' => e = .returned (.bool true) ∧ ∃ x', RdrAt w' B rb mb x' st'
    | none => e = .returned (.bool false)
theorem LnRet.bad {B rb mb : Nat} {w : World} {r : Option Rs} {e : Ending} {w' : World} (h : RKeep B rb w w') (hr : r = none) (he : e = .returned (.bool false)) : LnRet B rb mb w r e w' := by
  subst hr; exact ⟨h, he⟩
theorem LnRet.good {B rb mb : Nat} {w : World} {r : Option Rs} {e : Ending} {w' : World} (h : RKeep B rb w w') {st' : Rs} (hr : r = some st') (he : e = .returned (.bool true)) {x' : RdrV} (hx : RdrAt w' B rb mb x' st') : LnRet B rb mb w r e w' := by
  subst hr; exact ⟨h, he, x', hx⟩
theorem pCurR_some {r : List UInt8} {f : Nat} {t : List UInt8} (h1 : wholeL 9223372036854775808 (cutL 32 r).1 = some f) (h2 : unqL (cutL 32 r).2.1 = some t) : pCurR r = some ⟨(f : Int), t⟩ := by
  unfold pCurR; rw [cutS_cutL, h1, h2]
theorem pCurR_none1 {r : List UInt8} (h1 : wholeL 9223372036854775808 (cutL 32 r).1 = none) : pCurR r = none := by
  unfold pCurR; rw [cutS_cutL, h1]
theorem pCurR_none2 {r : List UInt8} (h1 : unqL (cutL 32 r).2.1 = none) : pCurR r = none := by
  unfold pCurR; rw [cutS_cutL, h1]
  split
  · rename_i h; cases h
  · rfl
theorem cursor_any (s : ByteArray) (w : World) (B rb mb : Nat) (x : RdrV) (st : Rs) (h : RdrAt w B rb mb x st) (hn : st.curs.length ≤ 1000000000) (hs : s.size ≤ 1000000000) (hE : PuEnv w) :
    Calls Tryz.prog 46 #[.pointer (some ⟨rb, 0, none⟩), .string s] w (LnRet B rb mb w ((pCurR s.data.toList).map fun c => { st with curs := st.curs ++ [c] })) := by
  have hc := cutL_len 32 s.data.toList
  have hcut := cutB_any s 32 w (by omega)
  have hls : s.data.toList.length = s.size := rfl
  have F1 := Lib.hid (fun f t => @pCurR_some s.data.toList f t)
  have F2 := Lib.hid (@pCurR_none1 s.data.toList)
  have F3 := Lib.hid (@pCurR_none2 s.data.toList)
  generalize (cutL 32 s.data.toList).1 = fl at *
  generalize (cutL 32 s.data.toList).2.1 = tm at *
  generalize (cutL 32 s.data.toList).2.2 = fd at *
  have hfl : fl.length ≤ 1000000000 := by omega
  have htm : tm.length ≤ 1000000000 := by omega
  have H := Lib.hid h; have HE := Lib.hid hE
  clear h hE hc hls
  go_enter Tryz.func46, Tryz.ntmps46
  go_wp2_with fail
  refine hcut.mono ?_
  rintro e w1 ⟨rfl, hb1⟩
  have HB1 := Lib.hid hb1
  clear hb1 hcut
  have hI := whole63_any (str fl) (by rw [str_size]; exact hfl) w1 (HE.out.belowW HB1.out)
  rw [str_data] at hI
  go_wp2_with fail
  refine hI.mono ?_
  rintro e w2 ⟨⟨v, hv0, hv1, rfl, hvv⟩, hb2⟩
  have HB2 := Lib.hid (HB1.out.trans (hb2.mono HB1.out.size))
  have HVV := Lib.hid hvv
  clear hb2 hvv hI
  have hU := unquoted_any (str tm) w2 (by rw [str_size]; exact htm)
  rw [str_data] at hU
  cases hu : unqL tm with
  | none =>
    rw [hu] at hU
    have HN := Lib.hid (F3.out hu)
    clear hu
    generalize (wholeL 9223372036854775808 fl).isSome = ok at *
    cases ok
    all_goals
      go_wp2_with fail
      refine hU.mono ?_
      rintro e w3 ⟨rfl, hb3⟩
      have HB3 := Lib.hid (HB2.out.trans (hb3.mono HB2.out.size))
      clear hb3 hU
      have HR3 := Lib.hid (H.out.below HB3.out)
      have c1 : w3.cell? ⟨rb, 1, none⟩ = some x.cv := HR3.out.blk.cell 1
      have hBB := HR3.out.hB
      have HK3 := Lib.hid (RKeep.ofW (rb := rb) H.out.hB HB3.out)
      have hal : st.curs.length + 1 ≤ 970000000000 := by omega
      unfold UqRet
      go_wp2_with (at_builtin; refine OwnL.appendK lfSOk HR3.out.curs (Lf.mk (wrap64 v) []) _ rfl _ _ rfl rfl rfl _ rfl rfl hBB hal ?_; intro v4 w4 ho4 hb4 hk4; obtain ⟨A4, n4, cap4, rfl⟩ := ho4.form3; have HR4 := Lib.hid (HR3.out.pushCur _ ho4 hb4 hk4); have HB4 := Lib.hid ((HK3.out.trans (RKeep.of hb4)).trans (RKeep.set_ B rb 1 w4 (.slice A4 n4 cap4))); have c4 : w4.cell? ⟨rb, 1, none⟩ = some x.cv := (HR3.out.blk.keptL HR3.out.curs (by decide) hk4).cell 1; have f4 := (HR3.out.blk.keptL HR3.out.curs (by decide) hk4).frozen 1; clear ho4 hb4 hk4)
      go_ret
      exact LnRet.bad HB4.out (by rw [HN.out]; rfl) rfl
  | some t =>
    rw [hu] at hU
    cases hw : wholeL 9223372036854775808 fl with
    | none =>
      have HN := Lib.hid (F2.out hw)
      clear hu hw
      go_wp2_with fail
      refine hU.mono ?_
      rintro e w3 ⟨rfl, hb3⟩
      have HB3 := Lib.hid (HB2.out.trans (hb3.mono HB2.out.size))
      clear hb3 hU
      have HR3 := Lib.hid (H.out.below HB3.out)
      have c1 : w3.cell? ⟨rb, 1, none⟩ = some x.cv := HR3.out.blk.cell 1
      have hBB := HR3.out.hB
      have HK3 := Lib.hid (RKeep.ofW (rb := rb) H.out.hB HB3.out)
      have hal : st.curs.length + 1 ≤ 970000000000 := by omega
      unfold UqRet
      go_wp2_with (at_builtin; refine OwnL.appendK lfSOk HR3.out.curs (Lf.mk (wrap64 v) t) _ rfl _ _ rfl rfl rfl _ rfl rfl hBB hal ?_; intro v4 w4 ho4 hb4 hk4; obtain ⟨A4, n4, cap4, rfl⟩ := ho4.form3; have HR4 := Lib.hid (HR3.out.pushCur _ ho4 hb4 hk4); have HB4 := Lib.hid ((HK3.out.trans (RKeep.of hb4)).trans (RKeep.set_ B rb 1 w4 (.slice A4 n4 cap4))); have c4 : w4.cell? ⟨rb, 1, none⟩ = some x.cv := (HR3.out.blk.keptL HR3.out.curs (by decide) hk4).cell 1; have f4 := (HR3.out.blk.keptL HR3.out.curs (by decide) hk4).frozen 1; clear ho4 hb4 hk4)
      go_ret
      exact LnRet.bad HB4.out (by rw [HN.out]; rfl) rfl
    | some f =>
      have HN := Lib.hid (F1.out f t hw hu)
      have hfl2 := wholeL_lt hw
      obtain rfl := HVV.out f hw
      clear hu hw
      go_wp2_with fail
      refine hU.mono ?_
      rintro e w3 ⟨rfl, hb3⟩
      have HB3 := Lib.hid (HB2.out.trans (hb3.mono HB2.out.size))
      clear hb3 hU
      have HR3 := Lib.hid (H.out.below HB3.out)
      have c1 : w3.cell? ⟨rb, 1, none⟩ = some x.cv := HR3.out.blk.cell 1
      have hBB := HR3.out.hB
      have HK3 := Lib.hid (RKeep.ofW (rb := rb) H.out.hB HB3.out)
      have hal : st.curs.length + 1 ≤ 970000000000 := by omega
      unfold UqRet
      go_wp2_with (at_builtin; refine OwnL.appendK lfSOk HR3.out.curs (Lf.mk (f : Int) t) _ rfl _ _ rfl rfl rfl _ rfl rfl hBB hal ?_; intro v4 w4 ho4 hb4 hk4; obtain ⟨A4, n4, cap4, rfl⟩ := ho4.form3; have HR4 := Lib.hid (HR3.out.pushCur _ ho4 hb4 hk4); have HB4 := Lib.hid ((HK3.out.trans (RKeep.of hb4)).trans (RKeep.set_ B rb 1 w4 (.slice A4 n4 cap4))); have c4 : w4.cell? ⟨rb, 1, none⟩ = some x.cv := (HR3.out.blk.keptL HR3.out.curs (by decide) hk4).cell 1; have f4 := (HR3.out.blk.keptL HR3.out.curs (by decide) hk4).frozen 1; clear ho4 hb4 hk4)
      go_ret
      exact LnRet.good HB4.out (by rw [HN.out]; rfl) rfl HR4.out
end Go.Proofs.YtmdpfikalekmlaaGreatDoor
end
