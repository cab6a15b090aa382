/- The walk of the reference's ParseNumber. -/
import Derived.Test.YtdkalcecmdadeaaDoorPw
namespace Go.Proofs.YtdkalcecmdadeaaDoor
open Go.RowKit

/-- What the reference keeps: digits so far; while they fit, their value below 0. -/
def RInv (p : List UInt8) (f : Bool) (z : Int) : Prop :=
  p.all isDig = true ∧ (f = true → z = -(dval p : Int) ∧ dval p ≤ 9223372036854775808) ∧ (f = false → 9223372036854775808 < dval p)
section
variable {d : ByteArray} {k : Nat} {m f : Bool} {z : Int}
theorem RInv_zero : RInv (d.data.toList.take 0) true 0 := ⟨rfl, fun _ => ⟨by simp [dval], by simp [dval]⟩, fun h => by cases h⟩
theorem RInv_out (h : k < d.size) (hi : RInv (d.data.toList.take k) false z) (hc0 : 48 ≤ (d[k].toNat : Int)) (hc1 : (d[k].toNat : Int) ≤ 57) : RInv (d.data.toList.take (k + 1)) false z := by
  have e := dval_take (d := d) h
  have h2 := hi.2.2 rfl
  exact ⟨by rw [dtake h, List.all_append, hi.1]; simp [isDig]; omega, fun h => by (cases h), fun _ => by omega⟩
theorem RInv_big (h : k < d.size) (hi : RInv (d.data.toList.take k) true z) (hc0 : 48 ≤ (d[k].toNat : Int)) (hc1 : (d[k].toNat : Int) ≤ 57) (hb : 10 * z < -9223372036854775808 + ((d[k].toNat : Int) - 48)) : RInv (d.data.toList.take (k + 1)) false z := by
  have e := dval_take (d := d) h
  have h2 := hi.2.1 rfl
  exact ⟨by rw [dtake h, List.all_append, hi.1]; simp [isDig]; omega, fun h => by (cases h), fun _ => by omega⟩
theorem RInv_in (h : k < d.size) (hi : RInv (d.data.toList.take k) true z) (hc0 : 48 ≤ (d[k].toNat : Int)) (hc1 : (d[k].toNat : Int) ≤ 57) (hb : -9223372036854775808 + ((d[k].toNat : Int) - 48) ≤ 10 * z) : RInv (d.data.toList.take (k + 1)) true (10 * z - ((d[k].toNat : Int) - 48)) := by
  have e := dval_take (d := d) h
  have h2 := hi.2.1 rfl
  exact ⟨by rw [dtake h, List.all_append, hi.1]; simp [isDig]; omega, fun _ => ⟨by omega, by omega⟩, fun h => by (cases h)⟩
theorem RInv_end (hk : k ≤ d.size) (hge : ¬ k < d.size) (h0 : d.data.toList ≠ []) (hi : RInv (d.data.toList.take k) f z) :
    (f = false → pres d.data.toList m = (0, false)) ∧ (f = true → pres d.data.toList true = (z, true))
    ∧ (f = true → z = -9223372036854775808 → pres d.data.toList false = (0, false)) ∧ (f = true → z ≠ -9223372036854775808 → pres d.data.toList false = (-z, true)) := by
  have e : d.data.toList.take k = d.data.toList := List.take_of_length_le (by rw [← ba_size]; omega)
  rw [e] at hi
  obtain ⟨h1, h2, h3⟩ := hi
  have hn : ¬ (d.data.toList = [] ∨ d.data.toList.all isDig = false) := by
    rintro (h | h)
    · exact h0 h
    · rw [h1] at h; cases h
  unfold pres
  rw [if_neg hn]
  refine ⟨fun h => ?_, fun h => ?_, fun h hz => ?_, fun h hz => ?_⟩
  · have := h3 h
    split
    · rw [if_neg (by omega)]
    · rw [if_neg (by omega)]
  · have := h2 h
    rw [if_neg hn, if_pos rfl, if_pos this.2, this.1]
  · have := h2 h
    rw [if_neg hn, if_neg (by simp), if_neg (by omega)]
  · have := h2 h
    rw [if_neg hn, if_neg (by simp), if_pos (by omega), this.1]
    congr 1; omega
theorem RInv_bd (hi : RInv (d.data.toList.take k) true z) : -9223372036854775808 ≤ z ∧ z ≤ 0 := by
  have := hi.2.1 rfl
  omega
end

def RRel (d : ByteArray) (v fs i : Value) : Prop := ∃ (k : Nat) (f : Bool) (z : Int), k ≤ d.size ∧ RInv (d.data.toList.take k) f z ∧ i = .int .i64 k ∧ fs = .bool f ∧ v = .int .i64 z

set_option maxRecDepth 100000 in
set_option maxHeartbeats 1000000 in
theorem ref_core (s d : ByteArray) (m : Bool) (w : World) (hs : d.size ≤ 9223372036854775807) (h1 : 1 ≤ s.size) (hd1 : 1 ≤ d.size) (hm0 : m = true → (((s[0].toNat : Int) == 45) = true ∧ s.extract 1 s.size = d)) (hm1 : m = false → ((s[0].toNat : Int) == 45) = false ∧ s = d) :
    Calls Tryd.prog 34 #[.string s] w fun e w' => e = .returned (.tuple #[.int .i64 (pres d.data.toList m).1, .bool (pres d.data.toList m).2]) ∧ w = w' := by
  have h0 : d.data.toList ≠ [] := by intro h; rw [ba_size, h] at hd1; simp at hd1
  have H0 := Lib.hid h0; clear h0
  have HM0 := Lib.hid hm0; have HM1 := Lib.hid hm1; clear hm0 hm1
  go_enter Tryd.func34, Tryd.ntmps34
  go_upto_region 1 with (fail)
  go_cut [4] (fun s4 wx => s4 = .bool m ∧ w = wx)
  case first =>
    cases m
    · have g1 := (HM1.out rfl).1
      go_wp2
      go_meet
      exact ⟨rfl, rfl⟩
    · have g1 := (HM0.out rfl).1
      go_wp2
      go_meet
      exact ⟨rfl, rfl⟩
  case rest =>
    obtain ⟨rfl, rfl⟩ := hcut
    go_upto_if 20 with (fail)
    go_cut [5] (fun s5 wx => s5 = .string d ∧ w = wx)
    case first =>
      cases m
      · have g1 := Lib.hid (HM1.out rfl).2
        go_wp2
        go_meet
        exact ⟨by rw [g1.out], rfl⟩
      · have g1 := (HM0.out rfl).2
        go_wp2
        go_meet
        exact ⟨rfl, rfl⟩
    case rest =>
      obtain ⟨rfl, rfl⟩ := hcut
      clear HM0 HM1
      go_wp2
      go_loop [6, 7, 8] (fun v fs i => RRel d v fs i) (fun _ _ i => d.size - (intOf i).toNat)
      case atStart => exact ⟨0, true, 0, by omega, RInv_zero, rfl, rfl, rfl⟩
      case round =>
        obtain ⟨k, f, z, hk, hi, rfl, rfl, rfl⟩ := hrel
        have HI := Lib.hid hi
        by_cases hlt : k < d.size
        · cases f
          · clear hi
            go_wp2
            · go_ret2
              exact ⟨ret_pair (pres_byte hlt (by omega)), rfl⟩
            · go_round
              case rel => exact ⟨_, _, _, _, _, ⟨k + 1, false, z, by omega, RInv_out hlt HI.out (by omega) (by omega), by go_num, rfl, rfl⟩, rfl, rfl, rfl, rfl, rfl⟩
              case measure => simp [intOf]; omega
            · go_ret2
              exact ⟨ret_pair (pres_byte hlt (by omega)), rfl⟩
          · have hz := RInv_bd hi
            obtain ⟨hz0, hz1⟩ := hz
            clear hi
            go_wp2
            · go_ret2
              exact ⟨ret_pair (pres_byte hlt (by omega)), rfl⟩
            · go_round
              case rel => exact ⟨_, _, _, _, _, ⟨k + 1, false, z, by omega, RInv_big hlt HI.out (by omega) (by omega) (by omega), by go_num, rfl, rfl⟩, rfl, rfl, rfl, rfl, rfl⟩
              case measure => simp [intOf]; omega
            · go_round
              case rel => exact ⟨_, _, _, _, _, ⟨k + 1, true, _, by omega, RInv_in hlt HI.out (by omega) (by omega) (by omega), by go_num, rfl, rfl⟩, rfl, rfl, rfl, rfl, rfl⟩
              case measure => simp [intOf]; omega
            · go_round
              case rel => exact ⟨_, _, _, _, _, ⟨k + 1, false, z, by omega, RInv_big hlt HI.out (by omega) (by omega) (by omega), by go_num, rfl, rfl⟩, rfl, rfl, rfl, rfl, rfl⟩
              case measure => simp [intOf]; omega
            · go_ret2
              exact ⟨ret_pair (pres_byte hlt (by omega)), rfl⟩
        · have HE := Lib.hid (RInv_end (m := m) hk hlt H0.out HI.out)
          cases f
          · clear hi
            go_wp2
            go_ret2
            exact ⟨ret_pair (HE.out.1 (by trivial)), by trivial⟩
          · obtain ⟨hz0, hz1⟩ := RInv_bd hi
            clear hi
            cases m
            · by_cases hz : z = -9223372036854775808
              · have hz2 : (z == -9223372036854775808) = true := by rw [hz]; rfl
                have HZ := Lib.hid hz
                clear hz
                go_wp2
                go_ret2
                exact ⟨ret_pair (HE.out.2.2.1 (by trivial) HZ.out), by trivial⟩
              · have hz2 : (z == -9223372036854775808) = false := beq_eq_false_iff_ne.2 hz
                have HZ := Lib.hid hz
                have hz3 : -9223372036854775807 ≤ z := by omega
                clear hz
                go_wp2
                go_ret2
                exact ⟨ret_pair (HE.out.2.2.2 (by trivial) HZ.out), by trivial⟩
            · go_wp2
              go_ret2
              exact ⟨ret_pair (HE.out.2.1 (by trivial)), by trivial⟩

theorem ref_empty (s : ByteArray) (w : World) (h1 : s.size = 0) :
    Calls Tryd.prog 34 #[.string s] w fun e w' => e = .returned (.tuple #[.int .i64 0, .bool false]) ∧ w = w' := by
  have e0 : s.data.toList = [] := List.eq_nil_of_length_eq_zero (by rw [← ba_size]; exact h1)
  have e : s = ByteArray.empty := ba_ext e0
  clear e0
  subst e
  clear h1
  go_enter Tryd.func34, Tryd.ntmps34
  go_wp2
  go_ret2
  exact ⟨rfl, rfl⟩
theorem ref_minus (s : ByteArray) (w : World) (h1 : 1 ≤ s.size) (h2 : ((s[0].toNat : Int) == 45) = true) (h3 : (s.extract 1 s.size).size = 0) :
    Calls Tryd.prog 34 #[.string s] w fun e w' => e = .returned (.tuple #[.int .i64 0, .bool false]) ∧ w = w' := by
  have e0 : (s.extract 1 s.size).data.toList = [] := List.eq_nil_of_length_eq_zero (by rw [← ba_size]; exact h3)
  have e : s.extract 1 s.size = ByteArray.empty := ba_ext e0
  clear e0
  clear h3
  go_enter Tryd.func34, Tryd.ntmps34
  go_wp2
  go_ret2
  exact ⟨rfl, rfl⟩

theorem refParse_any (s : ByteArray) (w : World) (hs : s.size ≤ maxLen) :
    Calls Tryd.prog 34 #[.string s] w fun e w' => e = .returned (.tuple #[.int .i64 (pnum s.data.toList).1, .bool (pnum s.data.toList).2]) ∧ w = w' := by
  unfold maxLen at hs
  by_cases h0 : s.size = 0
  · have e : s.data.toList = [] := List.eq_nil_of_length_eq_zero (by rw [← ba_size]; exact h0)
    rw [e]
    exact ref_empty s w h0
  · have h1 : 1 ≤ s.size := by omega
    have hh : s.data.toList.head? = some s[0] := by
      rw [List.head?_eq_getElem?, List.getElem?_eq_getElem (by rw [← ba_size]; omega)]; rfl
    have e2 : (s.extract 1 s.size).data.toList = s.data.toList.drop 1 := by
      rw [Lib.extract_data, List.take_of_length_le]; rw [ba_size, List.length_drop]; omega
    unfold pnum
    by_cases h : s[0] = 45
    · rw [if_pos (by rw [hh, h])]
      have h2 : ((s[0].toNat : Int) == 45) = true := by rw [h]; rfl
      by_cases h3 : (s.extract 1 s.size).size = 0
      · have e3 : s.data.toList.drop 1 = [] := by rw [← e2]; exact List.eq_nil_of_length_eq_zero (by rw [← ba_size]; exact h3)
        rw [e3]
        exact ref_minus s w h1 h2 h3
      · have := ref_core s (s.extract 1 s.size) true w (by rw [ByteArray.size_extract]; omega) h1 (by omega) (fun _ => ⟨h2, rfl⟩) (fun h => by cases h)
        rw [e2] at this
        exact this
    · rw [if_neg (by rw [hh]; simpa using h)]
      refine ref_core s s false w (by omega) h1 h1 (fun h => by cases h) (fun _ => ⟨?_, rfl⟩)
      rw [beq_eq_false_iff_ne]
      intro e
      exact h (UInt8.toNat_inj.1 (by have : (45 : UInt8).toNat = 45 := rfl; omega))
end Go.Proofs.YtdkalcecmdadeaaDoor
