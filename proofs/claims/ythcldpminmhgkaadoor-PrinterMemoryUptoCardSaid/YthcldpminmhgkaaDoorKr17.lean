/- Merged for a claim by shake.py: Ji Jl -/
import Derived.Test.YthcldpminmhgkaaDoorKrA
import Derived.Test.YthcldpminmhgkaaDoorKr15
import Derived.Test.YthcldpminmhgkaaDoorKr16
set_option maxRecDepth 100000
set_option maxHeartbeats 4000000
set_option linter.unusedSimpArgs false
set_option linter.unusedVariables false
section
namespace Go.Proofs.YthcldpminmhgkaaDoor
open Go.RowKit
def RinOk (kind : Int) : Prop := ∀ (n : Int) (field text : List UInt8) (lo hi : Bd) (occ : List Int) (oa ka : Option Addr) (oc kn kc : Nat) (w : World) (F : Nat → Prop), RdF folS w F ⟨oa, occ.length, oc⟩ occ →
 Calls Tryd.prog 51 #[.agg #[.int .i64 kind, .string (str field), .string (str text), .int .i64 n, .bool lo.open_, .bool lo.in_, .string (str lo.text), .bool hi.open_, .bool hi.in_, .string (str hi.text), .slice oa occ.length oc, .slice ka kn kc]] w (BoolRet (ownN kind field text n lo hi occ kn) w)
theorem rin_9 : RinOk 9 := by
 intro n field text lo hi occ oa ka oc kn kc w F hO
 obtain ⟨l1, l2, l3⟩ := lo; obtain ⟨r1, r2, r3⟩ := hi
 have HB := LH (fun (W : World) => (show Calls Tryd.prog 71 #[.agg #[.int .i64 9, .string (str field), .string (str text), .int .i64 0, .bool l1, .bool l2, .string (str l3), .bool r1, .bool r2, .string (str r3), .slice none 0 0, .slice none 0 0]] W (fun e w' => e = .returned (.bool (bareB field text 0 ⟨l1, l2, l3⟩ ⟨r1, r2, r3⟩ 0 0)) ∧ ((W.alloc (.cells #[.int .i64 9, .string (str field), .string (str text), .int .i64 0, .bool l1, .bool l2, .string (str l3), .bool r1, .bool r2, .string (str r3), .slice none 0 0, .slice none 0 0] 27)).alloc (.cells #[.bool false, .bool false, .string ⟨#[]⟩] 23)) = w') from bare_any 9 0 field text ⟨l1, l2, l3⟩ ⟨r1, r2, r3⟩ none none 0 0 0 0 W))
 generalize hb : bareB field text 0 ⟨l1, l2, l3⟩ ⟨r1, r2, r3⟩ 0 0 = b at *
 have HQ := LH (show ownN 9 field text n ⟨l1, l2, l3⟩ ⟨r1, r2, r3⟩ occ kn = (b && (decide (occ.length = kn) && numB n && occB occ && decide (0 < kn))) from by
  rw [← hb, Bool.eq_iff_iff]
  unfold ownN bareB
  simp [occ_isE, and_assoc, and_comm, and_left_comm])
 clear hb
 have honb : occ.length ≤ 9223372036854775807 := by have h : occ.length ≤ maxLen := Nat.le_trans hO.2.1 hO.2.2.1; unfold maxLen at h; omega
 have HO := LH hO; clear hO
 have HNM := LH (fun (W : World) => rnum_any n W)
 generalize numB n = b2 at *
 simp only []
 by_cases ho1 : occ.length = kn
 case neg =>
  have ho3 : ((occ.length : Int) != (kn : Int)) = true := by rw [bne_iff_ne]; omega
  have H1 := LH ho1; clear ho1
  go_enter Tryd.func51, Tryd.ntmps51
  go_wp2_with (first | ((with_reducible refine (HB.out _).mono ?_); rintro e w2 ⟨rfl, rfl⟩) | ((with_reducible refine (HNM.out _).mono ?_); rintro e w2 ⟨rfl, rfl⟩))
  go_ret
  exact ⟨ret_bool (by rw [HQ.out]; rw [decide_eq_false H1.out]; simp), by first | apply below2 | apply below3 | apply below4 | apply below5 | apply below6⟩
 have ho3 : ((occ.length : Int) != (kn : Int)) = false := by rw [bne_eq_false_iff_eq]; omega
 have H1 := LH ho1; clear ho1
 cases b2 with
 | false =>
  go_enter Tryd.func51, Tryd.ntmps51
  go_wp2_with (first | ((with_reducible refine (HB.out _).mono ?_); rintro e w2 ⟨rfl, rfl⟩) | ((with_reducible refine (HNM.out _).mono ?_); rintro e w2 ⟨rfl, rfl⟩))
  go_ret
  exact ⟨ret_bool (by rw [HQ.out]; simp), by first | apply below2 | apply below3 | apply below4 | apply below5 | apply below6⟩
 | true =>
  go_enter Tryd.func51, Tryd.ntmps51
  go_wp2_with (first | ((with_reducible refine (HB.out _).mono ?_); rintro e w2 ⟨rfl, rfl⟩) | ((with_reducible refine (HNM.out _).mono ?_); rintro e w2 ⟨rfl, rfl⟩))
  go_loop [4] (fun iv => ∃ j : Nat, j ≤ occ.length ∧ iv = .int .i64 (j : Int) ∧ ∀ (i : Nat) (x : Int), i < j → occ[i]? = some x → 0 ≤ x ∧ x ≤ 2) (fun iv => occ.length - (intOf iv).toNat)
  case atStart => exact ⟨0, Nat.zero_le _, rfl, fun i x h => absurd h (Nat.not_lt_zero _)⟩
  case round =>
   obtain ⟨j, hj, rfl, hall⟩ := hrel
   have HALL := LH hall; clear hall
   by_cases hlt : j < occ.length
   case neg =>
    have H3 := LH (show occB occ = true from occ_good fun i x hi => HALL.out i x (by have := (List.getElem?_eq_some_iff.1 hi).1; omega) hi)
    cases b with
    | false =>
     go_wp2_with (first | ((with_reducible refine (HB.out _).mono ?_); rintro e w2 ⟨rfl, rfl⟩) | ((with_reducible refine (HNM.out _).mono ?_); rintro e w2 ⟨rfl, rfl⟩))
     go_ret
     exact ⟨ret_bool (by rw [HQ.out]; rfl), by first | apply below2 | apply below3 | apply below4 | apply below5 | apply below6⟩
    | true =>
     by_cases hk1 : kn = 0
     ·have HK := LH hk1
      subst hk1
      go_wp2_with (first | ((with_reducible refine (HB.out _).mono ?_); rintro e w2 ⟨rfl, rfl⟩) | ((with_reducible refine (HNM.out _).mono ?_); rintro e w2 ⟨rfl, rfl⟩))
      go_ret
      exact ⟨ret_bool (by rw [HQ.out]; simp), by first | apply below2 | apply below3 | apply below4 | apply below5 | apply below6⟩
     ·have HK := LH (show 0 < kn from by omega)
      have hk5 : 0 < kn := by omega
      have hk6 : 1 ≤ kn := by omega
      have hk7 : decide (0 < kn) = true := decide_eq_true (by omega)
      clear hk1
      go_wp2_with (first | ((with_reducible refine (HB.out _).mono ?_); rintro e w2 ⟨rfl, rfl⟩) | ((with_reducible refine (HNM.out _).mono ?_); rintro e w2 ⟨rfl, rfl⟩))
      go_ret
      exact ⟨ret_bool (by rw [HQ.out]; rw [H3.out, decide_eq_true H1.out, decide_eq_true HK.out]; rfl), by first | apply below2 | apply below3 | apply below4 | apply below5 | apply below6⟩
   obtain ⟨a, rfl, hca⟩ := occ_cell HO.out hlt
   have hcb := World.block_lt_of_cell? w _ hca
   have HX := LH (List.getElem?_eq_getElem hlt)
   have HXB := LH (fun (h : ¬ (0 ≤ occ[j] ∧ occ[j] ≤ 2)) => occ_bad hlt h)
   generalize occ[j] = x at *
   by_cases hx3 : 0 ≤ x ∧ x ≤ 2
   case pos =>
    have HXX := LH hx3
    have e0 : decide (x < 0) = false := decide_eq_false (by omega)
    have e1 : decide (2 < x) = false := decide_eq_false (by omega)
    clear hx3
    go_wp2
    go_round
    case rel =>
     refine ⟨j + 1, hlt, by go_num, fun i y hi hy => ?_⟩
     by_cases hij : i = j
     ·subst hij; rw [HX.out] at hy; injection hy with hy; rw [← hy]; exact HXX.out
     ·exact HALL.out i y (by omega) hy
    case measure => simp [intOf]; omega
   have H4 := LH (HXB.out hx3)
   by_cases hx4 : x < 0
   ·have e0 : decide (x < 0) = true := decide_eq_true hx4
    clear hx3 hx4
    go_wp2_with (first | ((with_reducible refine (HB.out _).mono ?_); rintro e w2 ⟨rfl, rfl⟩) | ((with_reducible refine (HNM.out _).mono ?_); rintro e w2 ⟨rfl, rfl⟩))
    go_ret
    exact ⟨ret_bool (by rw [HQ.out]; rw [H4.out]; simp), by first | apply below2 | apply below3 | apply below4 | apply below5 | apply below6⟩
   ·have e0 : decide (x < 0) = false := decide_eq_false hx4
    have e1 : decide (2 < x) = true := decide_eq_true (by omega)
    clear hx3 hx4
    go_wp2_with (first | ((with_reducible refine (HB.out _).mono ?_); rintro e w2 ⟨rfl, rfl⟩) | ((with_reducible refine (HNM.out _).mono ?_); rintro e w2 ⟨rfl, rfl⟩))
    go_ret
    exact ⟨ret_bool (by rw [HQ.out]; rw [H4.out]; simp), by first | apply below2 | apply below3 | apply below4 | apply below5 | apply below6⟩
theorem rin_10 : RinOk 10 := by
 intro n field text lo hi occ oa ka oc kn kc w F hO
 obtain ⟨l1, l2, l3⟩ := lo; obtain ⟨r1, r2, r3⟩ := hi
 have HB := LH (fun (W : World) => (show Calls Tryd.prog 71 #[.agg #[.int .i64 10, .string (str field), .string (str text), .int .i64 n, .bool l1, .bool l2, .string (str l3), .bool r1, .bool r2, .string (str r3), .slice oa occ.length oc, .slice none 0 0]] W (fun e w' => e = .returned (.bool (bareB field text n ⟨l1, l2, l3⟩ ⟨r1, r2, r3⟩ occ.length 0)) ∧ ((W.alloc (.cells #[.int .i64 10, .string (str field), .string (str text), .int .i64 n, .bool l1, .bool l2, .string (str l3), .bool r1, .bool r2, .string (str r3), .slice oa occ.length oc, .slice none 0 0] 27)).alloc (.cells #[.bool false, .bool false, .string ⟨#[]⟩] 23)) = w') from bare_any 10 n field text ⟨l1, l2, l3⟩ ⟨r1, r2, r3⟩ oa none occ.length oc 0 0 W))
 generalize hb : bareB field text n ⟨l1, l2, l3⟩ ⟨r1, r2, r3⟩ occ.length 0 = b at *
 have HQ := LH (show ownN 10 field text n ⟨l1, l2, l3⟩ ⟨r1, r2, r3⟩ occ kn = (b && decide (0 < kn)) from by
  rw [← hb, Bool.eq_iff_iff]
  unfold ownN bareB
  simp [occ_isE, and_assoc, and_comm, and_left_comm])
 clear hb
 have honb : occ.length ≤ 9223372036854775807 := by have h : occ.length ≤ maxLen := Nat.le_trans hO.2.1 hO.2.2.1; unfold maxLen at h; omega
 have HO := LH hO; clear hO
 simp only []
 cases b with
 | false =>
  go_enter Tryd.func51, Tryd.ntmps51
  go_wp2_with (first | ((with_reducible refine (HB.out _).mono ?_); rintro e w2 ⟨rfl, rfl⟩))
  go_ret
  exact ⟨ret_bool (by rw [HQ.out]; rfl), by first | apply below2 | apply below3 | apply below4 | apply below5 | apply below6⟩
 | true =>
  by_cases hk1 : kn = 0
  ·subst hk1
   go_enter Tryd.func51, Tryd.ntmps51
   go_wp2_with (first | ((with_reducible refine (HB.out _).mono ?_); rintro e w2 ⟨rfl, rfl⟩))
   go_ret
   exact ⟨ret_bool (by rw [HQ.out]; simp), by first | apply below2 | apply below3 | apply below4 | apply below5 | apply below6⟩
  ·have HK := LH (show 0 < kn from by omega)
   have hk5 : 0 < kn := by omega
   have hk6 : 1 ≤ kn := by omega
   have hk7 : decide (0 < kn) = true := decide_eq_true (by omega)
   clear hk1
   go_enter Tryd.func51, Tryd.ntmps51
   go_wp2_with (first | ((with_reducible refine (HB.out _).mono ?_); rintro e w2 ⟨rfl, rfl⟩))
   go_ret
   exact ⟨ret_bool (by rw [HQ.out]; rw [decide_eq_true HK.out]; rfl), by first | apply below2 | apply below3 | apply below4 | apply below5 | apply below6⟩
theorem rin_11 : RinOk 11 := by
 intro n field text lo hi occ oa ka oc kn kc w F hO
 obtain ⟨l1, l2, l3⟩ := lo; obtain ⟨r1, r2, r3⟩ := hi
 have HB := LH (fun (W : World) => (show Calls Tryd.prog 71 #[.agg #[.int .i64 11, .string (str field), .string (str text), .int .i64 n, .bool l1, .bool l2, .string (str l3), .bool r1, .bool r2, .string (str r3), .slice oa occ.length oc, .slice none 0 0]] W (fun e w' => e = .returned (.bool (bareB field text n ⟨l1, l2, l3⟩ ⟨r1, r2, r3⟩ occ.length 0)) ∧ ((W.alloc (.cells #[.int .i64 11, .string (str field), .string (str text), .int .i64 n, .bool l1, .bool l2, .string (str l3), .bool r1, .bool r2, .string (str r3), .slice oa occ.length oc, .slice none 0 0] 27)).alloc (.cells #[.bool false, .bool false, .string ⟨#[]⟩] 23)) = w') from bare_any 11 n field text ⟨l1, l2, l3⟩ ⟨r1, r2, r3⟩ oa none occ.length oc 0 0 W))
 generalize hb : bareB field text n ⟨l1, l2, l3⟩ ⟨r1, r2, r3⟩ occ.length 0 = b at *
 have HQ := LH (show ownN 11 field text n ⟨l1, l2, l3⟩ ⟨r1, r2, r3⟩ occ kn = (b && decide (0 < kn)) from by
  rw [← hb, Bool.eq_iff_iff]
  unfold ownN bareB
  simp [occ_isE, and_assoc, and_comm, and_left_comm])
 clear hb
 have honb : occ.length ≤ 9223372036854775807 := by have h : occ.length ≤ maxLen := Nat.le_trans hO.2.1 hO.2.2.1; unfold maxLen at h; omega
 have HO := LH hO; clear hO
 simp only []
 cases b with
 | false =>
  go_enter Tryd.func51, Tryd.ntmps51
  go_wp2_with (first | ((with_reducible refine (HB.out _).mono ?_); rintro e w2 ⟨rfl, rfl⟩))
  go_ret
  exact ⟨ret_bool (by rw [HQ.out]; rfl), by first | apply below2 | apply below3 | apply below4 | apply below5 | apply below6⟩
 | true =>
  by_cases hk1 : kn = 0
  ·subst hk1
   go_enter Tryd.func51, Tryd.ntmps51
   go_wp2_with (first | ((with_reducible refine (HB.out _).mono ?_); rintro e w2 ⟨rfl, rfl⟩))
   go_ret
   exact ⟨ret_bool (by rw [HQ.out]; simp), by first | apply below2 | apply below3 | apply below4 | apply below5 | apply below6⟩
  ·have HK := LH (show 0 < kn from by omega)
   have hk5 : 0 < kn := by omega
   have hk6 : 1 ≤ kn := by omega
   have hk7 : decide (0 < kn) = true := decide_eq_true (by omega)
   clear hk1
   go_enter Tryd.func51, Tryd.ntmps51
   go_wp2_with (first | ((with_reducible refine (HB.out _).mono ?_); rintro e w2 ⟨rfl, rfl⟩))
   go_ret
   exact ⟨ret_bool (by rw [HQ.out]; rw [decide_eq_true HK.out]; rfl), by first | apply below2 | apply below3 | apply below4 | apply below5 | apply below6⟩
theorem rin_12 : RinOk 12 := by
 intro n field text lo hi occ oa ka oc kn kc w F hO
 obtain ⟨l1, l2, l3⟩ := lo; obtain ⟨r1, r2, r3⟩ := hi
 have HB := LH (fun (W : World) => (show Calls Tryd.prog 71 #[.agg #[.int .i64 12, .string (str field), .string (str text), .int .i64 n, .bool l1, .bool l2, .string (str l3), .bool r1, .bool r2, .string (str r3), .slice oa occ.length oc, .slice none 0 0]] W (fun e w' => e = .returned (.bool (bareB field text n ⟨l1, l2, l3⟩ ⟨r1, r2, r3⟩ occ.length 0)) ∧ ((W.alloc (.cells #[.int .i64 12, .string (str field), .string (str text), .int .i64 n, .bool l1, .bool l2, .string (str l3), .bool r1, .bool r2, .string (str r3), .slice oa occ.length oc, .slice none 0 0] 27)).alloc (.cells #[.bool false, .bool false, .string ⟨#[]⟩] 23)) = w') from bare_any 12 n field text ⟨l1, l2, l3⟩ ⟨r1, r2, r3⟩ oa none occ.length oc 0 0 W))
 generalize hb : bareB field text n ⟨l1, l2, l3⟩ ⟨r1, r2, r3⟩ occ.length 0 = b at *
 have HQ := LH (show ownN 12 field text n ⟨l1, l2, l3⟩ ⟨r1, r2, r3⟩ occ kn = (b && decide (0 < kn)) from by
  rw [← hb, Bool.eq_iff_iff]
  unfold ownN bareB
  simp [occ_isE, and_assoc, and_comm, and_left_comm])
 clear hb
 have honb : occ.length ≤ 9223372036854775807 := by have h : occ.length ≤ maxLen := Nat.le_trans hO.2.1 hO.2.2.1; unfold maxLen at h; omega
 have HO := LH hO; clear hO
 simp only []
 cases b with
 | false =>
  go_enter Tryd.func51, Tryd.ntmps51
  go_wp2_with (first | ((with_reducible refine (HB.out _).mono ?_); rintro e w2 ⟨rfl, rfl⟩))
  go_ret
  exact ⟨ret_bool (by rw [HQ.out]; rfl), by first | apply below2 | apply below3 | apply below4 | apply below5 | apply below6⟩
 | true =>
  by_cases hk1 : kn = 0
  ·subst hk1
   go_enter Tryd.func51, Tryd.ntmps51
   go_wp2_with (first | ((with_reducible refine (HB.out _).mono ?_); rintro e w2 ⟨rfl, rfl⟩))
   go_ret
   exact ⟨ret_bool (by rw [HQ.out]; simp), by first | apply below2 | apply below3 | apply below4 | apply below5 | apply below6⟩
  ·have HK := LH (show 0 < kn from by omega)
   have hk5 : 0 < kn := by omega
   have hk6 : 1 ≤ kn := by omega
   have hk7 : decide (0 < kn) = true := decide_eq_true (by omega)
   clear hk1
   go_enter Tryd.func51, Tryd.ntmps51
   go_wp2_with (first | ((with_reducible refine (HB.out _).mono ?_); rintro e w2 ⟨rfl, rfl⟩))
   go_ret
   exact ⟨ret_bool (by rw [HQ.out]; rw [decide_eq_true HK.out]; rfl), by first | apply below2 | apply below3 | apply below4 | apply below5 | apply below6⟩
theorem rin_13 : RinOk 13 := by
 intro n field text lo hi occ oa ka oc kn kc w F hO
 obtain ⟨l1, l2, l3⟩ := lo; obtain ⟨r1, r2, r3⟩ := hi
 have HB := LH (fun (W : World) => (show Calls Tryd.prog 71 #[.agg #[.int .i64 13, .string (str field), .string (str text), .int .i64 n, .bool l1, .bool l2, .string (str l3), .bool r1, .bool r2, .string (str r3), .slice oa occ.length oc, .slice none 0 0]] W (fun e w' => e = .returned (.bool (bareB field text n ⟨l1, l2, l3⟩ ⟨r1, r2, r3⟩ occ.length 0)) ∧ ((W.alloc (.cells #[.int .i64 13, .string (str field), .string (str text), .int .i64 n, .bool l1, .bool l2, .string (str l3), .bool r1, .bool r2, .string (str r3), .slice oa occ.length oc, .slice none 0 0] 27)).alloc (.cells #[.bool false, .bool false, .string ⟨#[]⟩] 23)) = w') from bare_any 13 n field text ⟨l1, l2, l3⟩ ⟨r1, r2, r3⟩ oa none occ.length oc 0 0 W))
 generalize hb : bareB field text n ⟨l1, l2, l3⟩ ⟨r1, r2, r3⟩ occ.length 0 = b at *
 have HQ := LH (show ownN 13 field text n ⟨l1, l2, l3⟩ ⟨r1, r2, r3⟩ occ kn = (b && decide (kn = 1)) from by
  rw [← hb, Bool.eq_iff_iff]
  unfold ownN bareB
  simp [occ_isE, and_assoc, and_comm, and_left_comm])
 clear hb
 have honb : occ.length ≤ 9223372036854775807 := by have h : occ.length ≤ maxLen := Nat.le_trans hO.2.1 hO.2.2.1; unfold maxLen at h; omega
 have HO := LH hO; clear hO
 simp only []
 cases b with
 | false =>
  go_enter Tryd.func51, Tryd.ntmps51
  go_wp2_with (first | ((with_reducible refine (HB.out _).mono ?_); rintro e w2 ⟨rfl, rfl⟩))
  go_ret
  exact ⟨ret_bool (by rw [HQ.out]; rfl), by first | apply below2 | apply below3 | apply below4 | apply below5 | apply below6⟩
 | true =>
  by_cases hk1 : kn = 0
  ·subst hk1
   go_enter Tryd.func51, Tryd.ntmps51
   go_wp2_with (first | ((with_reducible refine (HB.out _).mono ?_); rintro e w2 ⟨rfl, rfl⟩))
   go_ret
   exact ⟨ret_bool (by rw [HQ.out]; simp), by first | apply below2 | apply below3 | apply below4 | apply below5 | apply below6⟩
  ·by_cases hk2 : kn = 1
   ·subst hk2
    go_enter Tryd.func51, Tryd.ntmps51
    go_wp2_with (first | ((with_reducible refine (HB.out _).mono ?_); rintro e w2 ⟨rfl, rfl⟩))
    go_ret
    exact ⟨ret_bool (by rw [HQ.out]; simp), by first | apply below2 | apply below3 | apply below4 | apply below5 | apply below6⟩
   ·have HK := LH hk2
    have hk3 : ((kn : Int) == 1) = false := by rw [beq_eq_false_iff_ne]; omega
    have hk4 : (kn == 1) = false := by rw [beq_eq_false_iff_ne]; exact hk2
    have hk5 : ¬ kn = 1 := hk2
    clear hk1 hk2
    go_enter Tryd.func51, Tryd.ntmps51
    go_wp2_with (first | ((with_reducible refine (HB.out _).mono ?_); rintro e w2 ⟨rfl, rfl⟩))
    go_ret
    exact ⟨ret_bool (by rw [HQ.out]; rw [decide_eq_false HK.out]; simp), by first | apply below2 | apply below3 | apply below4 | apply below5 | apply below6⟩
theorem rin_14 : RinOk 14 := by
 intro n field text lo hi occ oa ka oc kn kc w F hO
 obtain ⟨l1, l2, l3⟩ := lo; obtain ⟨r1, r2, r3⟩ := hi
 have HB := LH (fun (W : World) => (show Calls Tryd.prog 71 #[.agg #[.int .i64 14, .string (str field), .string (str text), .int .i64 0, .bool l1, .bool l2, .string (str l3), .bool r1, .bool r2, .string (str r3), .slice oa occ.length oc, .slice none 0 0]] W (fun e w' => e = .returned (.bool (bareB field text 0 ⟨l1, l2, l3⟩ ⟨r1, r2, r3⟩ occ.length 0)) ∧ ((W.alloc (.cells #[.int .i64 14, .string (str field), .string (str text), .int .i64 0, .bool l1, .bool l2, .string (str l3), .bool r1, .bool r2, .string (str r3), .slice oa occ.length oc, .slice none 0 0] 27)).alloc (.cells #[.bool false, .bool false, .string ⟨#[]⟩] 23)) = w') from bare_any 14 0 field text ⟨l1, l2, l3⟩ ⟨r1, r2, r3⟩ oa none occ.length oc 0 0 W))
 generalize hb : bareB field text 0 ⟨l1, l2, l3⟩ ⟨r1, r2, r3⟩ occ.length 0 = b at *
 have HQ := LH (show ownN 14 field text n ⟨l1, l2, l3⟩ ⟨r1, r2, r3⟩ occ kn = (b && (decide (kn = 1) && numB n)) from by
  rw [← hb, Bool.eq_iff_iff]
  unfold ownN bareB
  simp [occ_isE, and_assoc, and_comm, and_left_comm])
 clear hb
 have honb : occ.length ≤ 9223372036854775807 := by have h : occ.length ≤ maxLen := Nat.le_trans hO.2.1 hO.2.2.1; unfold maxLen at h; omega
 have HO := LH hO; clear hO
 have HNM := LH (fun (W : World) => rnum_any n W)
 generalize numB n = b2 at *
 simp only []
 cases b with
 | false =>
  go_enter Tryd.func51, Tryd.ntmps51
  go_wp2_with (first | ((with_reducible refine (HB.out _).mono ?_); rintro e w2 ⟨rfl, rfl⟩) | ((with_reducible refine (HNM.out _).mono ?_); rintro e w2 ⟨rfl, rfl⟩))
  go_ret
  exact ⟨ret_bool (by rw [HQ.out]; rfl), by first | apply below2 | apply below3 | apply below4 | apply below5 | apply below6⟩
 | true =>
  by_cases hk1 : kn = 0
  ·subst hk1
   go_enter Tryd.func51, Tryd.ntmps51
   go_wp2_with (first | ((with_reducible refine (HB.out _).mono ?_); rintro e w2 ⟨rfl, rfl⟩) | ((with_reducible refine (HNM.out _).mono ?_); rintro e w2 ⟨rfl, rfl⟩))
   go_ret
   exact ⟨ret_bool (by rw [HQ.out]; simp), by first | apply below2 | apply below3 | apply below4 | apply below5 | apply below6⟩
  ·by_cases hk2 : kn = 1
   ·subst hk2
    cases b2 with
    | false =>
     go_enter Tryd.func51, Tryd.ntmps51
     go_wp2_with (first | ((with_reducible refine (HB.out _).mono ?_); rintro e w2 ⟨rfl, rfl⟩) | ((with_reducible refine (HNM.out _).mono ?_); rintro e w2 ⟨rfl, rfl⟩))
     go_ret
     exact ⟨ret_bool (by rw [HQ.out]; simp), by first | apply below2 | apply below3 | apply below4 | apply below5 | apply below6⟩
    | true =>
     go_enter Tryd.func51, Tryd.ntmps51
     go_wp2_with (first | ((with_reducible refine (HB.out _).mono ?_); rintro e w2 ⟨rfl, rfl⟩) | ((with_reducible refine (HNM.out _).mono ?_); rintro e w2 ⟨rfl, rfl⟩))
     go_ret
     exact ⟨ret_bool (by rw [HQ.out]; simp), by first | apply below2 | apply below3 | apply below4 | apply below5 | apply below6⟩
   ·have HK := LH hk2
    have hk3 : ((kn : Int) == 1) = false := by rw [beq_eq_false_iff_ne]; omega
    have hk4 : (kn == 1) = false := by rw [beq_eq_false_iff_ne]; exact hk2
    have hk5 : ¬ kn = 1 := hk2
    clear hk1 hk2
    go_enter Tryd.func51, Tryd.ntmps51
    go_wp2_with (first | ((with_reducible refine (HB.out _).mono ?_); rintro e w2 ⟨rfl, rfl⟩) | ((with_reducible refine (HNM.out _).mono ?_); rintro e w2 ⟨rfl, rfl⟩))
    go_ret
    exact ⟨ret_bool (by rw [HQ.out]; rw [decide_eq_false HK.out]; simp), by first | apply below2 | apply below3 | apply below4 | apply below5 | apply below6⟩
theorem rin_15 : RinOk 15 := by
 intro n field text lo hi occ oa ka oc kn kc w F hO
 obtain ⟨l1, l2, l3⟩ := lo; obtain ⟨r1, r2, r3⟩ := hi
 have HB := LH (fun (W : World) => (show Calls Tryd.prog 71 #[.agg #[.int .i64 15, .string (str field), .string (str text), .int .i64 0, .bool l1, .bool l2, .string (str l3), .bool r1, .bool r2, .string (str r3), .slice oa occ.length oc, .slice none 0 0]] W (fun e w' => e = .returned (.bool (bareB field text 0 ⟨l1, l2, l3⟩ ⟨r1, r2, r3⟩ occ.length 0)) ∧ ((W.alloc (.cells #[.int .i64 15, .string (str field), .string (str text), .int .i64 0, .bool l1, .bool l2, .string (str l3), .bool r1, .bool r2, .string (str r3), .slice oa occ.length oc, .slice none 0 0] 27)).alloc (.cells #[.bool false, .bool false, .string ⟨#[]⟩] 23)) = w') from bare_any 15 0 field text ⟨l1, l2, l3⟩ ⟨r1, r2, r3⟩ oa none occ.length oc 0 0 W))
 generalize hb : bareB field text 0 ⟨l1, l2, l3⟩ ⟨r1, r2, r3⟩ occ.length 0 = b at *
 have HQ := LH (show ownN 15 field text n ⟨l1, l2, l3⟩ ⟨r1, r2, r3⟩ occ kn = (b && (decide (kn = 1) && numB n)) from by
  rw [← hb, Bool.eq_iff_iff]
  unfold ownN bareB
  simp [occ_isE, and_assoc, and_comm, and_left_comm])
 clear hb
 have honb : occ.length ≤ 9223372036854775807 := by have h : occ.length ≤ maxLen := Nat.le_trans hO.2.1 hO.2.2.1; unfold maxLen at h; omega
 have HO := LH hO; clear hO
 have HNM := LH (fun (W : World) => rnum_any n W)
 generalize numB n = b2 at *
 simp only []
 cases b with
 | false =>
  go_enter Tryd.func51, Tryd.ntmps51
  go_wp2_with (first | ((with_reducible refine (HB.out _).mono ?_); rintro e w2 ⟨rfl, rfl⟩) | ((with_reducible refine (HNM.out _).mono ?_); rintro e w2 ⟨rfl, rfl⟩))
  go_ret
  exact ⟨ret_bool (by rw [HQ.out]; rfl), by first | apply below2 | apply below3 | apply below4 | apply below5 | apply below6⟩
 | true =>
  by_cases hk1 : kn = 0
  ·subst hk1
   go_enter Tryd.func51, Tryd.ntmps51
   go_wp2_with (first | ((with_reducible refine (HB.out _).mono ?_); rintro e w2 ⟨rfl, rfl⟩) | ((with_reducible refine (HNM.out _).mono ?_); rintro e w2 ⟨rfl, rfl⟩))
   go_ret
   exact ⟨ret_bool (by rw [HQ.out]; simp), by first | apply below2 | apply below3 | apply below4 | apply below5 | apply below6⟩
  ·by_cases hk2 : kn = 1
   ·subst hk2
    cases b2 with
    | false =>
     go_enter Tryd.func51, Tryd.ntmps51
     go_wp2_with (first | ((with_reducible refine (HB.out _).mono ?_); rintro e w2 ⟨rfl, rfl⟩) | ((with_reducible refine (HNM.out _).mono ?_); rintro e w2 ⟨rfl, rfl⟩))
     go_ret
     exact ⟨ret_bool (by rw [HQ.out]; simp), by first | apply below2 | apply below3 | apply below4 | apply below5 | apply below6⟩
    | true =>
     go_enter Tryd.func51, Tryd.ntmps51
     go_wp2_with (first | ((with_reducible refine (HB.out _).mono ?_); rintro e w2 ⟨rfl, rfl⟩) | ((with_reducible refine (HNM.out _).mono ?_); rintro e w2 ⟨rfl, rfl⟩))
     go_ret
     exact ⟨ret_bool (by rw [HQ.out]; simp), by first | apply below2 | apply below3 | apply below4 | apply below5 | apply below6⟩
   ·have HK := LH hk2
    have hk3 : ((kn : Int) == 1) = false := by rw [beq_eq_false_iff_ne]; omega
    have hk4 : (kn == 1) = false := by rw [beq_eq_false_iff_ne]; exact hk2
    have hk5 : ¬ kn = 1 := hk2
    clear hk1 hk2
    go_enter Tryd.func51, Tryd.ntmps51
    go_wp2_with (first | ((with_reducible refine (HB.out _).mono ?_); rintro e w2 ⟨rfl, rfl⟩) | ((with_reducible refine (HNM.out _).mono ?_); rintro e w2 ⟨rfl, rfl⟩))
    go_ret
    exact ⟨ret_bool (by rw [HQ.out]; rw [decide_eq_false HK.out]; simp), by first | apply below2 | apply below3 | apply below4 | apply below5 | apply below6⟩
theorem rin_out {kind : Int} (h : 15 < kind) : RinOk kind := by
 intro n field text lo hi occ oa ka oc kn kc w F hO
 have HN := LH (show ownN kind field text n lo hi occ kn = false from by
  unfold ownN
  rw [if_neg (by omega), if_neg (by omega), if_neg (by omega), if_neg (by omega), if_neg (by omega), if_neg (by omega), if_neg (by omega), if_neg (by omega), if_neg (by omega), if_neg (by omega), if_neg (by omega)])
 have k9 : (kind == 9) = false := by rw [beq_eq_false_iff_ne]; omega
 have k10 : (kind == 10) = false := by rw [beq_eq_false_iff_ne]; omega
 have k11 : (kind == 11) = false := by rw [beq_eq_false_iff_ne]; omega
 have k12 : (kind == 12) = false := by rw [beq_eq_false_iff_ne]; omega
 have k13 : (kind == 13) = false := by rw [beq_eq_false_iff_ne]; omega
 have k14 : (kind == 14) = false := by rw [beq_eq_false_iff_ne]; omega
 have k15 : (kind == 15) = false := by rw [beq_eq_false_iff_ne]; omega
 clear h hO
 go_enter Tryd.func51, Tryd.ntmps51
 go_wp2
 go_ret
 exact ⟨ret_bool HN.out.symm, below2 _ _ _⟩
theorem rinner_any {kind : Int} (h : 9 ≤ kind) : RinOk kind := by
 by_cases h1 : 15 < kind
 ·exact rin_out h1
 ·have h2 : kind = 9 ∨ kind = 10 ∨ kind = 11 ∨ kind = 12 ∨ kind = 13 ∨ kind = 14 ∨ kind = 15 := by omega
  rcases h2 with rfl | rfl | rfl | rfl | rfl | rfl | rfl
  ·exact rin_9
  ·exact rin_10
  ·exact rin_11
  ·exact rin_12
  ·exact rin_13
  ·exact rin_14
  ·exact rin_15
mutual
def bkN : Nd → Nat
 | .mk _ field text _ lo hi occ ks => 1 + field.length + text.length + lo.text.length + hi.text.length + occ.length + bkNs ks
def bkNs : List Nd → Nat
 | [] => 0
 | k :: ks => bkN k + bkNs ks
end
theorem bk_pos (t : Nd) : 1 ≤ bkN t := by cases t; rw [bkN]; omega
theorem bkNs_mem : ∀ {l : List Nd} {t : Nd}, t ∈ l → bkN t ≤ bkNs l
 | k :: ks, t, h => by
  rw [bkNs]
  rcases List.mem_cons.1 h with rfl | h
  ·omega
  ·have := bkNs_mem h; omega
theorem bkNs_len : ∀ l : List Nd, l.length ≤ bkNs l
 | [] => Nat.zero_le _
 | k :: ks => by
  have := bkNs_len ks
  have := bk_pos k
  rw [bkNs, List.length_cons]; omega
theorem kid_lt {kind n : Int} {field text : List UInt8} {lo hi : Bd} {occ : List Int} {ks : List Nd} {t : Nd} (h : t ∈ ks) : SizeOf.sizeOf t < SizeOf.sizeOf (Nd.mk kind field text n lo hi occ ks) := by
 have := List.sizeOf_lt_of_mem h
 simp
 omega
theorem nd_ind {P : Nd → Prop} (h : ∀ kind n field text lo hi occ ks, (∀ t ∈ ks, P t) → P (.mk kind field text n lo hi occ ks)) (t : Nd) : P t := by
 have h2 : ∀ (N : Nat) (t : Nd), SizeOf.sizeOf t ≤ N → P t := by
  intro N
  induction N with
  | zero => intro t ht; cases t; simp at ht
  | succ N ih =>
   intro t ht
   cases t with
   | mk kind field text n lo hi occ ks => exact h _ _ _ _ _ _ _ _ fun u hu => ih u (by have := kid_lt (kind := kind) (n := n) (field := field) (text := text) (lo := lo) (hi := hi) (occ := occ) hu; omega)
 exact h2 _ t (Nat.le_refl _)
theorem RdF.inP {α : Type} {S : Shape α} {w : World} {F : Nat → Prop} {s : Sl} {l : List α} (h : RdF S w F s l) (hS : S.Ok) : RdF S w (fun b => b < w.heap.size) s l := by
 obtain ⟨h1, h2, h3, h4, h5⟩ := h
 refine ⟨h1, h2, h3, fun hn => ?_, h5⟩
 obtain ⟨a, e, hb, hc⟩ := h4 hn
 refine ⟨a, e, ?_, hc⟩
 have hl : 0 < (S.cells l).length := by rw [Shape.cells_length hS]; exact Nat.mul_pos hn hS.pos
 have h6 := hc 0 _ (List.getElem?_eq_getElem hl)
 have := World.block_lt_of_cell? w _ h6
 rw [block_of_add] at this; exact this
def At12 (w : World) (b : Addr) (x : NV) : Prop := b.block < w.heap.size ∧ w.cell? b = some (.int .i64 x.kind) ∧ w.cell? ⟨b.block, b.off + 1, none⟩ = some (.string (str x.field)) ∧ w.cell? ⟨b.block, b.off + 2, none⟩ = some (.string (str x.text)) ∧ w.cell? ⟨b.block, b.off + 3, none⟩ = some (.int .i64 x.n) ∧
 w.cell? ⟨b.block, b.off + 4, none⟩ = some (.bool x.lo.open_) ∧ w.cell? ⟨b.block, b.off + 5, none⟩ = some (.bool x.lo.in_) ∧ w.cell? ⟨b.block, b.off + 6, none⟩ = some (.string (str x.lo.text)) ∧ w.cell? ⟨b.block, b.off + 7, none⟩ = some (.bool x.hi.open_) ∧ w.cell? ⟨b.block, b.off + 8, none⟩ = some (.bool x.hi.in_) ∧
 w.cell? ⟨b.block, b.off + 9, none⟩ = some (.string (str x.hi.text)) ∧ w.cell? ⟨b.block, b.off + 10, none⟩ = some (.slice x.occ.a x.occ.n x.occ.c) ∧ w.cell? ⟨b.block, b.off + 11, none⟩ = some (.slice x.kids.a x.kids.n x.kids.c)
theorem kid_cells {w : World} {F : Nat → Prop} {A : Option Addr} {n c : Nat} {l : List NV} (h : RdF ndS w F ⟨A, n, c⟩ l) {k : Nat} (hk : k < l.length) : ∃ a, A = some a ∧ At12 w (a.add (k * 12)) l[k] := by
 obtain ⟨a, e, hb, h0, hj⟩ := (((h.inP ndOk).rd (fun _ h => h)).at2 ndOk hk)
 exact ⟨a, e, hb, h0 _ rfl, hj 0 _ (by decide) rfl, hj 1 _ (by decide) rfl, hj 2 _ (by decide) rfl, hj 3 _ (by decide) rfl, hj 4 _ (by decide) rfl, hj 5 _ (by decide) rfl, hj 6 _ (by decide) rfl, hj 7 _ (by decide) rfl, hj 8 _ (by decide) rfl, hj 9 _ (by decide) rfl, hj 10 _ (by decide) rfl⟩
structure KidsR (w : World) (F : Nat → Prop) (A : Option Addr) (c : Nat) (ks : List Nd) : Prop where
 ex : ∃ nl : List NV, RdF ndS w F ⟨A, ks.length, c⟩ nl ∧ nl.length = ks.length ∧ ∀ (i : Nat) (x : NV) (t : Nd), nl[i]? = some x → ks[i]? = some t → NdR w F x t
theorem KidsR.belowW {w w' : World} {F : Nat → Prop} {A : Option Addr} {c : Nat} {ks : List Nd} (h : KidsR w F A c ks) (hb : Below w.heap.size w w') : KidsR w' F A c ks := by
 obtain ⟨nl, h1, h2, h3⟩ := h
 exact ⟨nl, h1.belowW hb, h2, fun i x t hx ht => (h3 i x t hx ht).belowW hb⟩
theorem KidsR.len {w : World} {F : Nat → Prop} {A : Option Addr} {c : Nat} {ks : List Nd} (h : KidsR w F A c ks) : ks.length ≤ c ∧ c ≤ maxLen := by
 obtain ⟨nl, h1, h2, h3⟩ := h
 exact ⟨h1.2.1, h1.2.2.1⟩
theorem KidsR.kid {w : World} {F : Nat → Prop} {A : Option Addr} {c : Nat} {ks : List Nd} (h : KidsR w F A c ks) {k : Nat} (hk : k < ks.length) : ∃ (a : Addr) (x : NV), A = some a ∧ At12 w (a.add (k * 12)) x ∧ NdR w F x ks[k] := by
 obtain ⟨nl, h1, h2, h3⟩ := h
 have hk2 : k < nl.length := by omega
 obtain ⟨a, e, hc⟩ := kid_cells h1 hk2
 exact ⟨a, nl[k], e, hc, h3 k _ _ (List.getElem?_eq_getElem hk2) (List.getElem?_eq_getElem hk)⟩
theorem NdR.open_ {w : World} {F : Nat → Prop} {x : NV} {kind n : Int} {field text : List UInt8} {lo hi : Bd} {occ : List Int} {ks : List Nd} (h : NdR w F x (.mk kind field text n lo hi occ ks)) :
  ∃ (oa ka : Option Addr) (oc kc : Nat), x.val = .agg #[.int .i64 kind, .string (str field), .string (str text), .int .i64 n, .bool lo.open_, .bool lo.in_, .string (str lo.text), .bool hi.open_, .bool hi.in_, .string (str hi.text), .slice oa occ.length oc, .slice ka ks.length kc] ∧ x = ⟨kind, field, text, n, lo, hi, ⟨oa, occ.length, oc⟩, ⟨ka, ks.length, kc⟩⟩ ∧
   RdF folS w F ⟨oa, occ.length, oc⟩ occ ∧ KidsR w F ka kc ks := by
 cases h with
 | @mk _ _ _ _ _ _ so sk _ nl _ hso hsk hnl hall =>
  obtain ⟨oa, on, oc⟩ := so
  obtain ⟨ka, kn, kc⟩ := sk
  have e1 : on = occ.length := hso.1
  have e2 : kn = ks.length := hsk.1.trans hnl
  subst e1 e2
  exact ⟨oa, ka, oc, kc, rfl, rfl, hso, ⟨nl, hsk, hnl, hall⟩⟩
end Go.Proofs.YthcldpminmhgkaaDoor
end
