/- strconv.ParseUint over digits, at 63 and at 64 bits: the inner function. -/
import Derived.Test.YtmdpfikalekmlaaGreatDoorRq
import Derived.Test.YtmdpfikalekmlaaGreatDoorOwn
import Derived.Lib.ConvBytes
import Derived.Lib.AtoiAllMem
import Derived.Lib.AtoiErrMem
import Derived.Test.YtmdpfikalekmlaaGreatDoorSh
import Derived.Test.YtmdpfikalekmlaaGreatDoorStr
import Derived.Test.YtmdpfikalekmlaaGreatDoorBlk
import Derived.Shelf.Pu.ToErrorRange
import Derived.Test.YtmdpfikalekmlaaGreatDoorQu
namespace Go.Proofs.YtmdpfikalekmlaaGreatDoor
open Go.RowKit
set_option maxRecDepth 100000
set_option maxHeartbeats 4000000
set_option linter.unusedSimpArgs false
set_option linter.unusedVariables false

theorem undgt_take_le (l : List UInt8) (k : Nat) : undgt (l.take k) ≤ undgt l := by
  induction l using snocR_ind with
  | h0 => simp
  | h1 l c ih =>
    by_cases hk : k ≤ l.length
    · rw [List.take_append_of_le_length hk, undgt_snoc]; omega
    · rw [List.take_of_length_le (by rw [List.length_append, List.length_singleton]; omega)]; exact Nat.le_refl _
theorem undgt_next {l : List UInt8} {k : Nat} (h : k < l.length) : undgt (l.take (k + 1)) = 10 * undgt (l.take k) + (l[k].toNat - 48) := by
  rw [← undgt_snoc, List.take_append_getElem]
/-- What the inner function hands back. -/
def PuRet (top : Nat) (s : List UInt8) : Ending := .returned (if undgt s < top then .tuple #[.int .u64 (undgt s : Int), .nilIface] else .tuple #[.int .u64 ((top - 1 : Nat) : Int), .iface 186 (.int .i64 1)])
theorem puRet_ok {top : Nat} {s : List UInt8} {v : Nat} (h : undgt s = v) (h1 : v < top) : PuRet top s = .returned (.tuple #[.int .u64 (v : Int), .nilIface]) := by
  unfold PuRet; rw [if_pos (by omega), h]
theorem puRet_range {top : Nat} {s : List UInt8} (h : top ≤ undgt s) : PuRet top s = .returned (.tuple #[.int .u64 ((top - 1 : Nat) : Int), .iface 186 (.int .i64 1)]) := by
  unfold PuRet; rw [if_neg (by omega)]

theorem pu63_any (t : ByteArray) (hd : t.data.toList.all isDig = true) (hne : t.size ≠ 0) (hmax : t.size ≤ 1000000000) (w : World) :
    Calls Tryz.prog 113 #[.string t, .int .i64 10, .int .i64 63] w fun e w' => e = PuRet 9223372036854775808 t.data.toList ∧ Below w.heap.size w w' := by
  have hcv := Lib.run_convert_string_bytes (P := Tryz.prog) w 9 26 5 t (u := .string) Tryz.underlying9 Tryz.underlying26 Tryz.underlying5
  have hB : ∀ j, j < t.size → (Lib.bytesWorld w 5 t).cell? ⟨w.heap.size, j, none⟩ = some (.int .u8 (t.data.toList.getD j 0).toNat) := fun j hj => Lib.bytesWorld_cell w 5 t j hj
  have HBl := Lib.hid (Lib.bytesWorld_below w 5 t)
  obtain ⟨W1, hW1⟩ : ∃ W1, W1 = Lib.bytesWorld w 5 t := ⟨_, rfl⟩
  rw [← hW1] at hcv hB HBl
  clear hW1
  have hemp : t.toList.isEmpty = false := by
    rw [← decide_eq_emptyBytes]
    exact decide_eq_false (fun h => hne (by rw [h]; rfl))
  obtain ⟨bs, hL⟩ : ∃ bs, bs = t.data.toList := ⟨_, rfl⟩
  have hLn : bs.length = t.size := by rw [hL]; rfl
  rw [← hL] at hB hd ⊢
  clear hL
  have HD := Lib.hid hd
  clear hd
  go_enter Tryz.func113, Tryz.ntmps113
  go_wp2
  go_loop [12, 13, 101] (fun vu vn vi => ∃ (k acc : Nat) (a : Int), vu = .bool false ∧ vn = .int .u64 a ∧ vi = .int .i64 k ∧ k ≤ t.size ∧ Hid (a = (acc : Int) ∧ acc < 9223372036854775808 ∧ acc = undgt (bs.take k)))
    (fun _ _ vi => t.size - (intOf vi).toNat)
  case atStart => exact ⟨0, 0, 0, rfl, rfl, rfl, by omega, Lib.hid ⟨rfl, by omega, rfl⟩⟩
  case round =>
    obtain ⟨k, acc, a, rfl, rfl, rfl, hk, hh⟩ := hrel
    obtain ⟨ha, hacc, hdec⟩ := hh.out
    clear hh
    have a0 : 0 ≤ a := by omega
    have a1 : a < 9223372036854775808 := by omega
    by_cases hkn : k < t.size
    · have hc := hB k hkn
      have hget : bs.getD k 0 = bs[k]'(by omega) := by simp [List.getD, List.getElem?_eq_getElem (show k < bs.length by omega)]
      rw [hget] at hc
      have hnx := undgt_next (l := bs) (k := k) (by omega)
      have hdg : isDig (bs[k]'(by omega)) = true := List.all_eq_true.1 HD.out _ (List.getElem_mem _)
      have htk := undgt_take_le bs (k + 1)
      rw [← hdec] at hnx
      have hd2 : 48 ≤ (bs[k]'(by omega)).toNat ∧ (bs[k]'(by omega)).toNat ≤ 57 := by simpa [isDig] using hdg
      generalize bs[k]'(by omega) = c at hc hnx hd2
      have hc256 : c.toNat < 256 := c.toNat_lt
      obtain ⟨hd0, hd1⟩ := hd2
      clear hB hget hdg
      by_cases hcut : 1844674407370955162 ≤ acc
      · have HR := Lib.hid (puRet_range (top := 9223372036854775808) (s := bs) (by omega))
        have icut : 1844674407370955162 ≤ a := by omega
        clear hcut hacc ha hnx htk hdec
        go_wp2
        go_ret2
        exact ⟨by rw [HR.out]; rfl, HBl.out⟩
      · by_cases hov : 18446744073709551616 ≤ acc * 10 + (c.toNat - 48)
        · have HR := Lib.hid (puRet_range (top := 9223372036854775808) (s := bs) (by omega))
          have icut : a < 1844674407370955162 := by omega
          have iov : 18446744073709551616 ≤ a * 10 + ((c.toNat : Int) - 48) := by omega
          have hwr : IntKind.u64.wrap (a * 10 + ((c.toNat : Int) - 48)) = a * 10 + ((c.toNat : Int) - 48) - 18446744073709551616 := by
            rw [IntKind.wrap_u64]
            omega
          clear hcut hacc hov ha hnx htk hdec
          go_wp2
          go_ret2
          exact ⟨by rw [HR.out]; rfl, HBl.out⟩
        · by_cases hov2 : 9223372036854775808 ≤ acc * 10 + (c.toNat - 48)
          · have HR := Lib.hid (puRet_range (top := 9223372036854775808) (s := bs) (by omega))
            have icut : a < 1844674407370955162 := by omega
            have iov : a * 10 + ((c.toNat : Int) - 48) < 18446744073709551616 := by omega
            have iov2 : 9223372036854775808 ≤ a * 10 + ((c.toNat : Int) - 48) := by omega
            clear hcut hacc hov hov2 ha hnx htk hdec
            go_wp2
            go_ret2
            exact ⟨by rw [HR.out]; rfl, HBl.out⟩
          · have HN : Hid (a * 10 + ((c.toNat : Int) - 48) = ((acc * 10 + (c.toNat - 48) : Nat) : Int) ∧ acc * 10 + (c.toNat - 48) < 9223372036854775808 ∧ acc * 10 + (c.toNat - 48) = undgt (bs.take (k + 1))) := Lib.hid ⟨by omega, by omega, by omega⟩
            have icut : a < 1844674407370955162 := by omega
            have iov : a * 10 + ((c.toNat : Int) - 48) < 9223372036854775808 := by omega
            clear hcut hacc hov hov2 hdec ha hnx htk
            go_wp2
            refine ⟨⟨k + 1, acc * 10 + (c.toNat - 48), a * 10 + ((c.toNat : Int) - 48), rfl, (by first | rfl | (congr 1; omega)), (by first | rfl | (congr 1; omega)), by omega, HN⟩, by simp [intOf]; omega⟩
    · have hkk : k = t.size := by omega
      subst hkk
      have HE := Lib.hid (puRet_ok (top := 9223372036854775808) (s := bs) (v := acc) (by rw [hdec, List.take_of_length_le (by omega)]) hacc)
      subst ha
      clear hacc a0 a1 hdec
      go_wp2
      go_ret2
      exact ⟨by rw [HE.out]; rfl, HBl.out⟩

theorem pu64_any (t : ByteArray) (hd : t.data.toList.all isDig = true) (hne : t.size ≠ 0) (hmax : t.size ≤ 1000000000) (w : World) :
    Calls Tryz.prog 113 #[.string t, .int .i64 10, .int .i64 64] w fun e w' => e = PuRet 18446744073709551616 t.data.toList ∧ Below w.heap.size w w' := by
  have hcv := Lib.run_convert_string_bytes (P := Tryz.prog) w 9 26 5 t (u := .string) Tryz.underlying9 Tryz.underlying26 Tryz.underlying5
  have hB : ∀ j, j < t.size → (Lib.bytesWorld w 5 t).cell? ⟨w.heap.size, j, none⟩ = some (.int .u8 (t.data.toList.getD j 0).toNat) := fun j hj => Lib.bytesWorld_cell w 5 t j hj
  have HBl := Lib.hid (Lib.bytesWorld_below w 5 t)
  obtain ⟨W1, hW1⟩ : ∃ W1, W1 = Lib.bytesWorld w 5 t := ⟨_, rfl⟩
  rw [← hW1] at hcv hB HBl
  clear hW1
  have hemp : t.toList.isEmpty = false := by
    rw [← decide_eq_emptyBytes]
    exact decide_eq_false (fun h => hne (by rw [h]; rfl))
  obtain ⟨bs, hL⟩ : ∃ bs, bs = t.data.toList := ⟨_, rfl⟩
  have hLn : bs.length = t.size := by rw [hL]; rfl
  rw [← hL] at hB hd ⊢
  clear hL
  have HD := Lib.hid hd
  clear hd
  have hmv : IntKind.u64.wrap (IntKind.u64.wrap 18446744073709551616 - 1) = 18446744073709551615 := by
    rw [IntKind.wrap_u64, IntKind.wrap_u64]
    decide
  go_enter Tryz.func113, Tryz.ntmps113
  go_wp2
  go_loop [12, 13, 101] (fun vu vn vi => ∃ (k acc : Nat) (a : Int), vu = .bool false ∧ vn = .int .u64 a ∧ vi = .int .i64 k ∧ k ≤ t.size ∧ Hid (a = (acc : Int) ∧ acc < 18446744073709551616 ∧ acc = undgt (bs.take k)))
    (fun _ _ vi => t.size - (intOf vi).toNat)
  case atStart => exact ⟨0, 0, 0, rfl, rfl, rfl, by omega, Lib.hid ⟨rfl, by omega, rfl⟩⟩
  case round =>
    obtain ⟨k, acc, a, rfl, rfl, rfl, hk, hh⟩ := hrel
    obtain ⟨ha, hacc, hdec⟩ := hh.out
    clear hh
    have a0 : 0 ≤ a := by omega
    have a1 : a < 18446744073709551616 := by omega
    by_cases hkn : k < t.size
    · have hc := hB k hkn
      have hget : bs.getD k 0 = bs[k]'(by omega) := by simp [List.getD, List.getElem?_eq_getElem (show k < bs.length by omega)]
      rw [hget] at hc
      have hnx := undgt_next (l := bs) (k := k) (by omega)
      have hdg : isDig (bs[k]'(by omega)) = true := List.all_eq_true.1 HD.out _ (List.getElem_mem _)
      have htk := undgt_take_le bs (k + 1)
      rw [← hdec] at hnx
      have hd2 : 48 ≤ (bs[k]'(by omega)).toNat ∧ (bs[k]'(by omega)).toNat ≤ 57 := by simpa [isDig] using hdg
      generalize bs[k]'(by omega) = c at hc hnx hd2
      have hc256 : c.toNat < 256 := c.toNat_lt
      obtain ⟨hd0, hd1⟩ := hd2
      clear hB hget hdg
      by_cases hcut : 1844674407370955162 ≤ acc
      · have HR := Lib.hid (puRet_range (top := 18446744073709551616) (s := bs) (by omega))
        have icut : 1844674407370955162 ≤ a := by omega
        clear hcut hacc ha hnx htk hdec
        go_wp2
        go_ret2
        exact ⟨by rw [HR.out]; rfl, HBl.out⟩
      · by_cases hov : 18446744073709551616 ≤ acc * 10 + (c.toNat - 48)
        · have HR := Lib.hid (puRet_range (top := 18446744073709551616) (s := bs) (by omega))
          have icut : a < 1844674407370955162 := by omega
          have iov : 18446744073709551616 ≤ a * 10 + ((c.toNat : Int) - 48) := by omega
          have hwr : IntKind.u64.wrap (a * 10 + ((c.toNat : Int) - 48)) = a * 10 + ((c.toNat : Int) - 48) - 18446744073709551616 := by
            rw [IntKind.wrap_u64]
            omega
          clear hcut hacc hov ha hnx htk hdec
          go_wp2
          go_ret2
          exact ⟨by rw [HR.out]; rfl, HBl.out⟩
        · have HN : Hid (a * 10 + ((c.toNat : Int) - 48) = ((acc * 10 + (c.toNat - 48) : Nat) : Int) ∧ acc * 10 + (c.toNat - 48) < 18446744073709551616 ∧ acc * 10 + (c.toNat - 48) = undgt (bs.take (k + 1))) := Lib.hid ⟨by omega, by omega, by omega⟩
          have icut : a < 1844674407370955162 := by omega
          have iov : a * 10 + ((c.toNat : Int) - 48) < 18446744073709551616 := by omega
          clear hcut hacc hov hdec ha hnx htk
          go_wp2
          refine ⟨⟨k + 1, acc * 10 + (c.toNat - 48), a * 10 + ((c.toNat : Int) - 48), rfl, (by first | rfl | (congr 1; omega)), (by first | rfl | (congr 1; omega)), by omega, HN⟩, by simp [intOf]; omega⟩
    · have hkk : k = t.size := by omega
      subst hkk
      have HE := Lib.hid (puRet_ok (top := 18446744073709551616) (s := bs) (v := acc) (by rw [hdec, List.take_of_length_le (by omega)]) hacc)
      subst ha
      clear hacc a0 a1 hdec
      go_wp2
      go_ret2
      exact ⟨by rw [HE.out]; rfl, HBl.out⟩
end Go.Proofs.YtmdpfikalekmlaaGreatDoor
/- strconv.ParseUint over digits; isa.whole. -/
namespace Go.Proofs.YtmdpfikalekmlaaGreatDoor
open Go.RowKit
set_option maxRecDepth 100000
set_option maxHeartbeats 4000000
set_option linter.unusedSimpArgs false
set_option linter.unusedVariables false

/-- The variable that ParseUint reads where a number is too great. -/
def PuEnv (w : World) : Prop := ∃ ev, w.cell? ⟨32, 0, none⟩ = some ev ∧ (ev = .nilIface ∨ ∃ te pe, ev = .iface te pe)
theorem PuEnv.below {w w' : World} {B : Nat} (h : PuEnv w) (hg : 32 < B) (hb : Below B w w') : PuEnv w' := by
  obtain ⟨ev, h1, h2⟩ := h
  exact ⟨ev, (hb.cell (p := ⟨32, 0, none⟩) hg).trans h1, h2⟩
theorem PuEnv.lt {w : World} (h : PuEnv w) : 32 < w.heap.size := by
  obtain ⟨ev, h1, h2⟩ := h
  exact Lib.lt_of_cell h1
theorem PuEnv.belowW {w w' : World} (h : PuEnv w) (hb : Below w.heap.size w w') : PuEnv w' := h.below h.lt hb

theorem sPu63_ok (t : ByteArray) (hd : t.data.toList.all isDig = true) (hne : t.size ≠ 0) (hmax : t.size ≤ 1000000000) (w : World) (hE : PuEnv w) (hlt : undgt t.data.toList < 9223372036854775808) :
    Calls Tryz.prog 97 #[.string t, .int .i64 10, .int .i64 63] w fun e w' => e = .returned (.tuple #[.int .u64 (undgt t.data.toList : Int), .nilIface]) ∧ Below w.heap.size w w' := by
  have hI := pu63_any t hd hne hmax w
  have HE := Lib.hid hE
  clear hd hE
  rw [puRet_ok rfl hlt] at hI
  generalize undgt t.data.toList = v at *
  go_enter Tryz.func97, Tryz.ntmps97
  go_wp2_with fail
  refine hI.mono ?_
  rintro e w1 ⟨rfl, hb⟩
  have HB := Lib.hid hb
  clear hb
  go_wp2
  go_ret2
  exact ⟨rfl, HB.out⟩
theorem sPu63_range (t : ByteArray) (hd : t.data.toList.all isDig = true) (hne : t.size ≠ 0) (hmax : t.size ≤ 1000000000) (w : World) (hE : PuEnv w) (hlt : ¬ undgt t.data.toList < 9223372036854775808) :
    Calls Tryz.prog 97 #[.string t, .int .i64 10, .int .i64 63] w fun e w' => (∃ N, e = .returned (.tuple #[.int .u64 9223372036854775807, .iface 187 (.pointer (some ⟨N, 0, none⟩))])) ∧ Below w.heap.size w w' := by
  have hI := pu63_any t hd hne hmax w
  have HE := Lib.hid hE
  clear hd hE
  rw [puRet_range (by omega), show (((9223372036854775808 - 1 : Nat) : Int)) = 9223372036854775807 from rfl] at hI
  clear hlt
  go_enter Tryz.func97, Tryz.ntmps97
  go_wp2_with fail
  refine hI.mono ?_
  rintro e w1 ⟨rfl, hb⟩
  have HB := Lib.hid hb
  obtain ⟨ev, h1, h2⟩ := HE.out.belowW hb
  clear hb
  go_wp2_with fail
  refine (AnyPu.strconv_toError_range { Tryz.laysPu14 with } ⟨#[80, 97, 114, 115, 101, 85, 105, 110, 116]⟩ t 10 63 ev _ (by omega) h1 h2).mono ?_
  rintro e w2 ⟨N, rfl, h3, h4, h5⟩
  have HB2 := Lib.hid (HB.out.trans (h5.mono HB.out.size))
  clear h1 h2 h3 h4 h5
  go_wp2
  go_ret2
  exact ⟨⟨N, rfl⟩, HB2.out⟩

theorem sPu64_ok (t : ByteArray) (hd : t.data.toList.all isDig = true) (hne : t.size ≠ 0) (hmax : t.size ≤ 1000000000) (w : World) (hE : PuEnv w) (hlt : undgt t.data.toList < 18446744073709551616) :
    Calls Tryz.prog 97 #[.string t, .int .i64 10, .int .i64 64] w fun e w' => e = .returned (.tuple #[.int .u64 (undgt t.data.toList : Int), .nilIface]) ∧ Below w.heap.size w w' := by
  have hI := pu64_any t hd hne hmax w
  have HE := Lib.hid hE
  clear hd hE
  rw [puRet_ok rfl hlt] at hI
  generalize undgt t.data.toList = v at *
  go_enter Tryz.func97, Tryz.ntmps97
  go_wp2_with fail
  refine hI.mono ?_
  rintro e w1 ⟨rfl, hb⟩
  have HB := Lib.hid hb
  clear hb
  go_wp2
  go_ret2
  exact ⟨rfl, HB.out⟩
theorem sPu64_range (t : ByteArray) (hd : t.data.toList.all isDig = true) (hne : t.size ≠ 0) (hmax : t.size ≤ 1000000000) (w : World) (hE : PuEnv w) (hlt : ¬ undgt t.data.toList < 18446744073709551616) :
    Calls Tryz.prog 97 #[.string t, .int .i64 10, .int .i64 64] w fun e w' => (∃ N, e = .returned (.tuple #[.int .u64 18446744073709551615, .iface 187 (.pointer (some ⟨N, 0, none⟩))])) ∧ Below w.heap.size w w' := by
  have hI := pu64_any t hd hne hmax w
  have HE := Lib.hid hE
  clear hd hE
  rw [puRet_range (by omega), show (((18446744073709551616 - 1 : Nat) : Int)) = 18446744073709551615 from rfl] at hI
  clear hlt
  go_enter Tryz.func97, Tryz.ntmps97
  go_wp2_with fail
  refine hI.mono ?_
  rintro e w1 ⟨rfl, hb⟩
  have HB := Lib.hid hb
  obtain ⟨ev, h1, h2⟩ := HE.out.belowW hb
  clear hb
  go_wp2_with fail
  refine (AnyPu.strconv_toError_range { Tryz.laysPu14 with } ⟨#[80, 97, 114, 115, 101, 85, 105, 110, 116]⟩ t 10 64 ev _ (by omega) h1 h2).mono ?_
  rintro e w2 ⟨N, rfl, h3, h4, h5⟩
  have HB2 := Lib.hid (HB.out.trans (h5.mono HB.out.size))
  clear h1 h2 h3 h4 h5
  go_wp2
  go_ret2
  exact ⟨⟨N, rfl⟩, HB2.out⟩

theorem wholeL_no {top : Nat} {s : List UInt8} (h : wholeOk s = false) : wholeL top s = none := by unfold wholeL; rw [if_neg (by rw [h]; decide)]
theorem wholeL_ok {top : Nat} {s : List UInt8} (h : wholeOk s = true) (hl : undgt s < top) : wholeL top s = some (undgt s) := by unfold wholeL; rw [if_pos h, if_pos hl]
theorem wholeL_big {top : Nat} {s : List UInt8} (h : wholeOk s = true) (hl : ¬ undgt s < top) : wholeL top s = none := by unfold wholeL; rw [if_pos h, if_neg hl]
theorem not_dig {c : UInt8} (h : isDig c = false) : c.toNat < 48 ∨ 57 < c.toNat := by
  unfold isDig at h
  rcases Nat.lt_or_ge c.toNat 48 with h1 | h1
  · exact .inl h1
  · rcases Nat.lt_or_ge 57 c.toNat with h2 | h2
    · exact .inr h2
    · simp [h1, h2] at h
theorem wholeOk_bad {s : List UInt8} {k : Nat} (hk : k < s.length) (h : isDig s[k] = false) : wholeOk s = false := by
  unfold wholeOk
  have : s.all isDig = false := by rw [List.all_eq_false]; exact ⟨s[k], List.getElem_mem hk, by rw [h]; decide⟩
  rw [this, Bool.and_false]
theorem wholeOk_yes {s : List UInt8} (h0 : s ≠ []) (h1 : ¬ (1 < s.length ∧ s.head? = some 48)) (h2 : s.all isDig = true) : wholeOk s = true := by
  unfold wholeOk
  rw [h2]
  simp only [Bool.and_true, Bool.and_eq_true, decide_eq_true_eq, Bool.not_eq_true', Bool.and_eq_false_iff, decide_eq_false_iff_not]
  refine ⟨h0, ?_⟩
  by_cases h : 1 < s.length
  · exact .inr fun h2 => h1 ⟨h, h2⟩
  · exact .inl h
theorem wholeOk_zero {s : List UInt8} (h1 : 1 < s.length) (h2 : s.head? = some 48) : wholeOk s = false := by
  unfold wholeOk
  rw [decide_eq_true h1, decide_eq_true h2]; simp
/-- What isa.whole hands back: the number, and whether it is one. -/
def WhRet (top : Nat) (s : List UInt8) (e : Ending) : Prop := ∃ v : Int, 0 ≤ v ∧ v < 18446744073709551616 ∧ e = .returned (.tuple #[.int .u64 v, .bool (wholeL top s).isSome]) ∧ ∀ n, wholeL top s = some n → v = (n : Int)
theorem u8_ne' {b c : UInt8} (h : b ≠ c) : ¬ (b.toNat : Int) = (c.toNat : Int) := fun e => h (UInt8.toNat_inj.1 (by omega))
def WhRel (s : List UInt8) (iv : Value) : Prop := ∃ k : Nat, k ≤ s.length ∧ iv = .int .i64 (k : Int) ∧ (s.take k).all isDig = true

theorem whole63_any (t : ByteArray) (hmax : t.size ≤ 1000000000) (w : World) (hE : PuEnv w) :
    Calls Tryz.prog 78 #[.string t, .int .i64 63] w fun e w' => WhRet 9223372036854775808 t.data.toList e ∧ Below w.heap.size w w' := by
  have hls : t.data.toList.length = t.size := rfl
  have HE := Lib.hid hE
  clear hE
  by_cases h0 : t.size = 0
  · have e0 : t.data.toList = [] := List.eq_nil_of_length_eq_zero h0
    have ht : t = ⟨#[]⟩ := by
      apply ByteArray.ext
      exact Array.eq_empty_of_size_eq_zero h0
    subst ht
    clear hls e0 h0
    go_enter Tryz.func78, Tryz.ntmps78
    go_wp2
    go_ret2
    exact ⟨⟨0, by omega, by omega, rfl, fun n h => by cases h⟩, Below.refl _ _⟩
  · have hemp : t.toList.isEmpty = false := by
      rw [← decide_eq_emptyBytes]
      exact decide_eq_false (fun h => h0 (by rw [h]; rfl))
    have hne : ¬ t.toList = [] := fun h => by rw [h] at hemp; cases hemp
    have hp0 : 0 < t.size := by omega
    by_cases hz : 1 < t.size ∧ t[0]'hp0 = 48
    · have HN := Lib.hid (wholeL_no (top := 9223372036854775808) (wholeOk_zero (s := t.data.toList) hz.1 (by
        rw [List.head?_eq_getElem?, List.getElem?_eq_getElem (by omega)]
        exact congrArg some hz.2)))
      have hz1 := hz.1
      have hz2 : ((t[0]'hp0).toNat : Int) = 48 := by rw [hz.2]; rfl
      clear hls hz
      go_enter Tryz.func78, Tryz.ntmps78
      go_wp2
      go_ret2
      exact ⟨⟨0, by omega, by omega, by rw [HN.out]; rfl, fun n h => by rw [HN.out] at h; cases h⟩, Below.refl _ _⟩
    · have HZ := Lib.hid hz
      have hzz : ¬ (1 < t.size) ∨ (1 < t.size ∧ ¬ ((t[0]'hp0).toNat : Int) = 48) := by
        by_cases h1 : 1 < t.size
        · exact .inr ⟨h1, u8_ne' (c := 48) (fun h => hz ⟨h1, h⟩)⟩
        · exact .inl h1
      clear hz hls
      go_enter Tryz.func78, Tryz.ntmps78
      rcases hzz with h1 | ⟨h1, h2⟩
      all_goals
        go_wp2
        go_loop [6] (fun iv => WhRel t.data.toList iv) (fun iv => t.size - (intOf iv).toNat)
        case atStart => exact ⟨0, Nat.zero_le _, rfl, rfl⟩
        case round =>
          obtain ⟨k, hk, rfl, ha⟩ := hrel
          have hk2 : k ≤ t.size := hk
          have HA := Lib.hid ha
          clear ha hk
          by_cases hlt : k < t.size
          · have hkl : k < t.data.toList.length := hlt
            cases hd : isDig t.data.toList[k] with
            | true =>
              have hdd : 48 ≤ t[k].toNat ∧ t[k].toNat ≤ 57 := by simpa [isDig] using (show isDig t[k] = true from hd)
              have hda : (48 : Int) ≤ t[k].toNat := by omega
              have hdb : (t[k].toNat : Int) ≤ 57 := by omega
              have HN := Lib.hid (show (t.data.toList.take (k + 1)).all isDig = true from by
                rw [← List.take_append_getElem hkl, List.all_append, HA.out, Bool.true_and, List.all_cons, hd]; rfl)
              clear hd hdd
              go_wp2
              go_round
              case rel => first | exact ⟨k + 1, hkl, by go_num, HN.out⟩ | exact ⟨_, _, _, ⟨k + 1, hkl, by go_num, HN.out⟩, rfl, rfl, rfl⟩
              case measure => simp [intOf]; omega
            | false =>
              have HN := Lib.hid (wholeL_no (top := 9223372036854775808) (wholeOk_bad hkl hd))
              have hdd := not_dig (show isDig t[k] = false from hd)
              have hx := u8_lt t[k]
              clear hd
              rcases hdd with hdd | hdd
              · have hda : (t[k].toNat : Int) < 48 := by omega
                go_wp2
                go_ret2
                exact ⟨⟨0, by omega, by omega, by rw [HN.out]; rfl, fun n h => by rw [HN.out] at h; cases h⟩, Below.refl _ _⟩
              · have hda : (57 : Int) < t[k].toNat := by omega
                go_wp2
                go_ret2
                exact ⟨⟨0, by omega, by omega, by rw [HN.out]; rfl, fun n h => by rw [HN.out] at h; cases h⟩, Below.refl _ _⟩
          · have hall : t.data.toList.all isDig = true := by
              have := HA.out
              rwa [List.take_of_length_le (show t.data.toList.length ≤ k from by show t.size ≤ k; omega)] at this
            have hwk := wholeOk_yes (s := t.data.toList) (fun h => h0 (by show t.data.toList.length = 0; rw [h]; rfl)) (fun h => HZ.out ⟨h.1, by
              have := h.2
              rw [List.head?_eq_getElem?, List.getElem?_eq_getElem (show 0 < t.data.toList.length from by have := h.1; omega)] at this
              exact Option.some.inj this⟩) hall
            by_cases hv : undgt t.data.toList < 9223372036854775808
            · have HN := Lib.hid (wholeL_ok hwk hv)
              have hI := sPu63_ok t hall h0 hmax w HE.out hv
              generalize hund : undgt t.data.toList = v at *
              clear hund hall hwk
              go_wp2_with fail
              refine hI.mono ?_
              rintro e w1 ⟨rfl, hb⟩
              have HB := Lib.hid hb
              clear hb
              go_wp2
              go_quiet (fail)
              go_wp2
              go_ret2
              exact ⟨⟨(v : Int), by omega, by omega, by rw [HN.out]; rfl, fun n h => by rw [HN.out] at h; cases h; rfl⟩, below_drewN HB.out _⟩
            · have HN := Lib.hid (wholeL_big hwk hv)
              have hI := sPu63_range t hall h0 hmax w HE.out hv
              clear hall hwk hv
              go_wp2_with fail
              refine hI.mono ?_
              rintro e w1 ⟨⟨N, rfl⟩, hb⟩
              have HB := Lib.hid hb
              clear hb
              go_wp2
              go_quiet (fail)
              go_wp2
              go_ret2
              exact ⟨⟨9223372036854775807, by omega, by omega, by rw [HN.out]; rfl, fun n h => by rw [HN.out] at h; cases h⟩, below_drewN HB.out _⟩

theorem whole64_any (t : ByteArray) (hmax : t.size ≤ 1000000000) (w : World) (hE : PuEnv w) :
    Calls Tryz.prog 78 #[.string t, .int .i64 64] w fun e w' => WhRet 18446744073709551616 t.data.toList e ∧ Below w.heap.size w w' := by
  have hls : t.data.toList.length = t.size := rfl
  have HE := Lib.hid hE
  clear hE
  by_cases h0 : t.size = 0
  · have e0 : t.data.toList = [] := List.eq_nil_of_length_eq_zero h0
    have ht : t = ⟨#[]⟩ := by
      apply ByteArray.ext
      exact Array.eq_empty_of_size_eq_zero h0
    subst ht
    clear hls e0 h0
    go_enter Tryz.func78, Tryz.ntmps78
    go_wp2
    go_ret2
    exact ⟨⟨0, by omega, by omega, rfl, fun n h => by cases h⟩, Below.refl _ _⟩
  · have hemp : t.toList.isEmpty = false := by
      rw [← decide_eq_emptyBytes]
      exact decide_eq_false (fun h => h0 (by rw [h]; rfl))
    have hne : ¬ t.toList = [] := fun h => by rw [h] at hemp; cases hemp
    have hp0 : 0 < t.size := by omega
    by_cases hz : 1 < t.size ∧ t[0]'hp0 = 48
    · have HN := Lib.hid (wholeL_no (top := 18446744073709551616) (wholeOk_zero (s := t.data.toList) hz.1 (by
        rw [List.head?_eq_getElem?, List.getElem?_eq_getElem (by omega)]
        exact congrArg some hz.2)))
      have hz1 := hz.1
      have hz2 : ((t[0]'hp0).toNat : Int) = 48 := by rw [hz.2]; rfl
      clear hls hz
      go_enter Tryz.func78, Tryz.ntmps78
      go_wp2
      go_ret2
      exact ⟨⟨0, by omega, by omega, by rw [HN.out]; rfl, fun n h => by rw [HN.out] at h; cases h⟩, Below.refl _ _⟩
    · have HZ := Lib.hid hz
      have hzz : ¬ (1 < t.size) ∨ (1 < t.size ∧ ¬ ((t[0]'hp0).toNat : Int) = 48) := by
        by_cases h1 : 1 < t.size
        · exact .inr ⟨h1, u8_ne' (c := 48) (fun h => hz ⟨h1, h⟩)⟩
        · exact .inl h1
      clear hz hls
      go_enter Tryz.func78, Tryz.ntmps78
      rcases hzz with h1 | ⟨h1, h2⟩
      all_goals
        go_wp2
        go_loop [6] (fun iv => WhRel t.data.toList iv) (fun iv => t.size - (intOf iv).toNat)
        case atStart => exact ⟨0, Nat.zero_le _, rfl, rfl⟩
        case round =>
          obtain ⟨k, hk, rfl, ha⟩ := hrel
          have hk2 : k ≤ t.size := hk
          have HA := Lib.hid ha
          clear ha hk
          by_cases hlt : k < t.size
          · have hkl : k < t.data.toList.length := hlt
            cases hd : isDig t.data.toList[k] with
            | true =>
              have hdd : 48 ≤ t[k].toNat ∧ t[k].toNat ≤ 57 := by simpa [isDig] using (show isDig t[k] = true from hd)
              have hda : (48 : Int) ≤ t[k].toNat := by omega
              have hdb : (t[k].toNat : Int) ≤ 57 := by omega
              have HN := Lib.hid (show (t.data.toList.take (k + 1)).all isDig = true from by
                rw [← List.take_append_getElem hkl, List.all_append, HA.out, Bool.true_and, List.all_cons, hd]; rfl)
              clear hd hdd
              go_wp2
              go_round
              case rel => first | exact ⟨k + 1, hkl, by go_num, HN.out⟩ | exact ⟨_, _, _, ⟨k + 1, hkl, by go_num, HN.out⟩, rfl, rfl, rfl⟩
              case measure => simp [intOf]; omega
            | false =>
              have HN := Lib.hid (wholeL_no (top := 18446744073709551616) (wholeOk_bad hkl hd))
              have hdd := not_dig (show isDig t[k] = false from hd)
              have hx := u8_lt t[k]
              clear hd
              rcases hdd with hdd | hdd
              · have hda : (t[k].toNat : Int) < 48 := by omega
                go_wp2
                go_ret2
                exact ⟨⟨0, by omega, by omega, by rw [HN.out]; rfl, fun n h => by rw [HN.out] at h; cases h⟩, Below.refl _ _⟩
              · have hda : (57 : Int) < t[k].toNat := by omega
                go_wp2
                go_ret2
                exact ⟨⟨0, by omega, by omega, by rw [HN.out]; rfl, fun n h => by rw [HN.out] at h; cases h⟩, Below.refl _ _⟩
          · have hall : t.data.toList.all isDig = true := by
              have := HA.out
              rwa [List.take_of_length_le (show t.data.toList.length ≤ k from by show t.size ≤ k; omega)] at this
            have hwk := wholeOk_yes (s := t.data.toList) (fun h => h0 (by show t.data.toList.length = 0; rw [h]; rfl)) (fun h => HZ.out ⟨h.1, by
              have := h.2
              rw [List.head?_eq_getElem?, List.getElem?_eq_getElem (show 0 < t.data.toList.length from by have := h.1; omega)] at this
              exact Option.some.inj this⟩) hall
            by_cases hv : undgt t.data.toList < 18446744073709551616
            · have HN := Lib.hid (wholeL_ok hwk hv)
              have hI := sPu64_ok t hall h0 hmax w HE.out hv
              generalize hund : undgt t.data.toList = v at *
              clear hund hall hwk
              go_wp2_with fail
              refine hI.mono ?_
              rintro e w1 ⟨rfl, hb⟩
              have HB := Lib.hid hb
              clear hb
              go_wp2
              go_quiet (fail)
              go_wp2
              go_ret2
              exact ⟨⟨(v : Int), by omega, by omega, by rw [HN.out]; rfl, fun n h => by rw [HN.out] at h; cases h; rfl⟩, below_drewN HB.out _⟩
            · have HN := Lib.hid (wholeL_big hwk hv)
              have hI := sPu64_range t hall h0 hmax w HE.out hv
              clear hall hwk hv
              go_wp2_with fail
              refine hI.mono ?_
              rintro e w1 ⟨⟨N, rfl⟩, hb⟩
              have HB := Lib.hid hb
              clear hb
              go_wp2
              go_quiet (fail)
              go_wp2
              go_ret2
              exact ⟨⟨18446744073709551615, by omega, by omega, by rw [HN.out]; rfl, fun n h => by rw [HN.out] at h; cases h⟩, below_drewN HB.out _⟩
end Go.Proofs.YtmdpfikalekmlaaGreatDoor
/- Layer 20: ints. -/
namespace Go.Proofs.YtmdpfikalekmlaaGreatDoor
open Go.RowKit
set_option maxRecDepth 100000
set_option maxHeartbeats 4000000
set_option linter.unusedSimpArgs false
set_option linter.unusedVariables false

/-- What isa.ints hands back. -/
def InRet (r : Option (List Int)) (w : World) (e : Ending) (w' : World) : Prop :=
  (match r with
    | some l => ∃ v, e = .returned (.tuple #[v, .bool true]) ∧ OwnL intS w' w.heap.size v l
    | none => e = .returned (.tuple #[.slice none 0 0, .bool false])) ∧ Below w.heap.size w w'
def InRel (ws : List (List UInt8)) (w : World) (ov iv : Value) (wr : World) : Prop :=
  ∃ (k : Nat) (acc : List Int), k ≤ ws.length ∧ iv = .int .i64 (k : Int) ∧ acc.length ≤ k ∧ OwnL intS wr w.heap.size ov acc ∧ Below w.heap.size w wr ∧ intsL ws = (intsL (ws.drop k)).map (acc ++ ·)
theorem wholeL_lt {top : Nat} {s : List UInt8} {n : Nat} (h : wholeL top s = some n) : n < top := by
  unfold wholeL at h
  split at h
  · split at h
    · cases h; assumption
    · cases h
  · cases h
theorem at_word {w : World} {B : Nat} {A : Option Addr} {n cap : Nat} {ws : List (List UInt8)} (h : RdL strS w B (.slice A n cap) (ws.map str)) {k : Nat} (hk : k < ws.length) :
    ∃ a, A = some a ∧ (a.add k).block < B ∧ w.cell? (a.add k) = some (.string (str ws[k])) := by
  obtain ⟨a, h1, h2, h3⟩ := at_str h (k := k) (by rw [List.length_map]; exact hk)
  refine ⟨a, h1, h2, ?_⟩
  rw [h3, List.getElem_map]
theorem ints_any (A : Option Addr) (n cap : Nat) (ws : List (List UInt8)) (w : World) (B : Nat) (h : RdL strS w B (.slice A n cap) (ws.map str)) (hB : B ≤ w.heap.size) (hsz : ∀ x ∈ ws, x.length ≤ 1000000000) (hlen : ws.length ≤ 1000000001) (hE : PuEnv w) :
    Calls Tryz.prog 45 #[.slice A n cap] w (InRet (intsL ws) w) := by
  obtain ⟨A0, c0, he, hc1, hc2⟩ := h.open_
  injection he with e1 e2 e3
  subst e1 e3
  rw [List.length_map] at e2 hc1
  subst e2
  unfold maxLen at hc2
  have H := Lib.hid h; have HE := Lib.hid hE; have HSZ := Lib.hid hsz
  clear h hE hsz
  go_enter Tryz.func45, Tryz.ntmps45
  go_wp2
  go_loopw [4, 11] (fun ov iv wr => InRel ws w ov iv wr) (fun _ iv _ => ws.length - (intOf iv).toNat)
  case atStart => exact ⟨0, [], Nat.zero_le _, rfl, Nat.le_refl _, OwnL.nil _ _ _, Below.refl _ _, by simp⟩
  case round =>
    obtain ⟨k, acc, hk, rfl, hal, ho, hb, hu⟩ := hrel
    have HO := Lib.hid ho; have HB := Lib.hid hb; have HU := Lib.hid hu
    have hBr := hb.size
    clear ho hb hu
    by_cases hlt : k < ws.length
    · obtain ⟨a, rfl, hab, c0⟩ := at_word (H.out.belowW hB HB.out) hlt
      have hxs : ws[k].length ≤ 1000000000 := HSZ.out _ (List.getElem_mem hlt)
      have hdk : ws.drop k = ws[k] :: ws.drop (k + 1) := List.drop_eq_getElem_cons hlt
      have hI := whole63_any (str ws[k]) (by rw [str_size]; exact hxs) wr (HE.out.belowW HB.out)
      rw [str_data] at hI
      cases hv : wholeL 9223372036854775808 ws[k] with
      | some v =>
        have hvl := wholeL_lt hv
        have HN := Lib.hid (show intsL ws = (intsL (ws.drop (k + 1))).map ((acc ++ [(v : Int)]) ++ ·) from by
          rw [HU.out, hdk, intsL, hv]
          simp only [Option.map_map]
          congr 1
          funext z; simp)
        have HV := Lib.hid hv
        have hal1 : acc.length + 1 ≤ 970000000000 := by omega
        clear hdk hv
        generalize ws[k] = x at *
        go_wp2_with fail
        refine hI.mono ?_
        rintro e w1 ⟨⟨v', -, -, rfl, hvv⟩, hb1⟩
        obtain rfl := hvv v HV.out
        rw [HV.out]
        have HO1 := Lib.hid (HO.out.below hb1)
        have HB1 := Lib.hid (HB.out.trans (hb1.mono hBr))
        have hB1 := HB1.out.size
        clear hb1 hvv
        go_wp2_with (at_builtin; refine OwnL.append intSOk HO1.out (v : Int) rfl _ _ rfl rfl rfl _ rfl hB1 hal1 ?_; intro v5 w5 ho5 hb5; have HO5 := Lib.hid ho5; have HB5 := Lib.hid (HB1.out.trans hb5); clear ho5 hb5)
        go_roundw
        case rel => exact ⟨k + 1, acc ++ [(v : Int)], hlt, by go_num, by rw [List.length_append, List.length_singleton]; omega, HO5.out, HB5.out, HN.out⟩
        case measure => simp [intOf]; omega
      | none =>
        have HN := Lib.hid (show intsL ws = none from by
          rw [HU.out, hdk, intsL, hv]; rfl)
        have HV := Lib.hid hv
        clear hdk hv
        generalize ws[k] = x at *
        go_wp2_with fail
        refine hI.mono ?_
        rintro e w1 ⟨⟨v', hv0, hv1, rfl, -⟩, hb1⟩
        rw [HV.out]
        have HB1 := Lib.hid (HB.out.trans (hb1.mono hBr))
        clear hb1
        go_wp2
        go_ret2
        refine ⟨?_, HB1.out⟩
        rw [HN.out]
        rfl
    · have HN := Lib.hid (show intsL ws = some acc from by
        rw [HU.out, List.drop_eq_nil_of_le (by omega)]
        simp [intsL])
      go_wp2
      go_ret2
      refine ⟨?_, HB.out⟩
      rw [HN.out]
      exact ⟨_, rfl, HO.out⟩
end Go.Proofs.YtmdpfikalekmlaaGreatDoor
