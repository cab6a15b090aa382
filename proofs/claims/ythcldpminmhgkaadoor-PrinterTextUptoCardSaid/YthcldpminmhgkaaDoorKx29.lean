/- Merged for a claim by shake.py: Je4 Je5 Jl Jm -/
import Derived.Test.YthcldpminmhgkaaDoorKxA
import Derived.Test.YthcldpminmhgkaaDoorKx25
import Derived.Test.YthcldpminmhgkaaDoorKx26
import Derived.Test.YthcldpminmhgkaaDoorKx27
import Derived.Test.YthcldpminmhgkaaDoorKx28
set_option maxRecDepth 100000
set_option maxHeartbeats 4000000
set_option linter.unusedSimpArgs false
set_option linter.unusedVariables false
section
namespace Go.Proofs.YthcldpminmhgkaaDoor
open Go.RowKit
theorem own_13 : OwnOk 13 := by
 intro n field text lo hi occ oa ka oc kn kc w F hA hO ht
 obtain ⟨l1, l2, l3⟩ := lo; obtain ⟨r1, r2, r3⟩ := hi
 have a0 : w.cell? ⟨17, 130, none⟩ = some (.bool false) := hA.1 130 _ rfl
 have a1 : w.cell? ⟨17, 131, none⟩ = some (.bool false) := hA.1 131 _ rfl
 have a2 : w.cell? ⟨17, 132, none⟩ = some (.int .i64 0) := hA.1 132 _ rfl
 have a3 : w.cell? ⟨17, 133, none⟩ = some (.int .i64 0) := hA.1 133 _ rfl
 have a4 : w.cell? ⟨17, 134, none⟩ = some (.bool false) := hA.1 134 _ rfl
 have a5 : w.cell? ⟨17, 135, none⟩ = some (.bool false) := hA.1 135 _ rfl
 have a6 : w.cell? ⟨17, 136, none⟩ = some (.int .i64 1) := hA.1 136 _ rfl
 have a7 : w.cell? ⟨17, 137, none⟩ = some (.int .i64 1) := hA.1 137 _ rfl
 have a8 : w.cell? ⟨17, 138, none⟩ = some (.int .i64 4) := hA.1 138 _ rfl
 have a9 : w.cell? ⟨17, 139, none⟩ = some (.string ⟨#[]⟩) := hA.1 139 _ rfl
 have hag := hA.2
 have honb : occ.length ≤ 9223372036854775807 := by have h : occ.length ≤ maxLen := Nat.le_trans hO.2.1 hO.2.2.1; unfold maxLen at h; omega
 have HO := LH hO; have HT := LH ht
 have q1 := fun W => bd_nez l1 l2 l3 W; have q2 := fun W => bd_nez r1 r2 r3 W
 have q3 := fun op x y u W => bd_grd l1 l2 (str l3) op x y u W; have q4 := fun op x y u W => bd_grd r1 r2 (str r3) op x y u W
 generalize hb1 : Bd.nil ⟨l1, l2, l3⟩ = b1 at *; generalize hb2 : Bd.nil ⟨r1, r2, r3⟩ = b2 at *
 have HE1 := LH hb1; have HE2 := LH hb2
 clear hb1 hb2 hA hO ht
 simp only []
 by_cases hf : field = []
 case neg =>
  have hf1 : (str field).toList.isEmpty = false := by rw [str_toList]; cases field; exact absurd rfl hf; rfl
  have hf2 : ¬ (str field).toList = [] := by rw [str_toList]; exact hf
  have HN := LH (show ownN 13 field text n ⟨l1, l2, l3⟩ ⟨r1, r2, r3⟩ occ kn = false from by unfold ownN; simp [hf])
  clear hf
  go_enter Tryd.func35, Tryd.ntmps35
  go_wp2
  go_ret
  exact ⟨ret_bool HN.out.symm, by first | apply below2 | apply below3 | apply below4⟩
 subst hf
 have hse : (str []).toList = [] := str_toList []; have hse2 : (str []).toList.isEmpty = true := by rw [str_toList]; rfl
 by_cases hx : text = []
 case neg =>
  have hx1 : (str text).toList.isEmpty = false := by rw [str_toList]; cases text; exact absurd rfl hx; rfl
  have hx2 : ¬ (str text).toList = [] := by rw [str_toList]; exact hx
  have HN := LH (show ownN 13 [] text n ⟨l1, l2, l3⟩ ⟨r1, r2, r3⟩ occ kn = false from by unfold ownN; simp [hx])
  clear hx
  go_enter Tryd.func35, Tryd.ntmps35
  go_wp2
  go_ret
  exact ⟨ret_bool HN.out.symm, by first | apply below2 | apply below3 | apply below4⟩
 subst hx
 by_cases hn1 : n < 0
 case pos =>
  have hn3 : decide (n < 0) = true := decide_eq_true hn1
  have HN := LH (show ownN 13 [] [] n ⟨l1, l2, l3⟩ ⟨r1, r2, r3⟩ occ kn = false from by have hq : ¬ n = 0 := (by omega); unfold ownN; simp [hq])
  clear hn1
  go_enter Tryd.func35, Tryd.ntmps35
  go_wp2
  go_ret
  exact ⟨ret_bool HN.out.symm, by first | apply below2 | apply below3 | apply below4⟩
 have hn3 : decide (n < 0) = false := decide_eq_false hn1
 by_cases hn2 : 0 < n
 case pos =>
  have hn4 : decide (0 < n) = true := decide_eq_true hn2
  have HN := LH (show ownN 13 [] [] n ⟨l1, l2, l3⟩ ⟨r1, r2, r3⟩ occ kn = false from by have hq : ¬ n = 0 := (by omega); unfold ownN; simp [hq])
  clear hn1 hn2
  go_enter Tryd.func35, Tryd.ntmps35
  go_wp2
  go_ret
  exact ⟨ret_bool HN.out.symm, by first | apply below2 | apply below3 | apply below4⟩
 have hn4 : decide (0 < n) = false := decide_eq_false hn2
 have HNN := LH (show 0 ≤ n ∧ n ≤ 0 from by omega)
 clear hn1 hn2
 cases b1 with
 | false =>
  have HN := LH (show ownN 13 [] [] n ⟨l1, l2, l3⟩ ⟨r1, r2, r3⟩ occ kn = false from by unfold ownN; simp [HE1.out])
  go_enter Tryd.func35, Tryd.ntmps35
  go_wp2
  go_ret
  exact ⟨ret_bool HN.out.symm, by first | apply below2 | apply below3 | apply below4⟩
 | true =>
  cases b2 with
  | false =>
   have HN := LH (show ownN 13 [] [] n ⟨l1, l2, l3⟩ ⟨r1, r2, r3⟩ occ kn = false from by unfold ownN; simp [HE2.out])
   go_enter Tryd.func35, Tryd.ntmps35
   go_wp2
   go_ret
   exact ⟨ret_bool HN.out.symm, by first | apply below2 | apply below3 | apply below4⟩
  | true =>
   by_cases hk1 : kn = 0
   case pos =>
    subst hk1
    have HN := LH (show ownN 13 [] [] n ⟨l1, l2, l3⟩ ⟨r1, r2, r3⟩ occ 0 = false from by unfold ownN; simp)
    go_enter Tryd.func35, Tryd.ntmps35
    go_wp2
    go_ret
    exact ⟨ret_bool HN.out.symm, by first | apply below2 | apply below3 | apply below4⟩
   by_cases hk2 : kn = 1
   case neg =>
    have hk5 : 0 < kn := by omega
    have hk6 : 1 ≤ kn := by omega
    have hk7 : decide (0 < kn) = true := decide_eq_true (by omega)
    have hk8 : decide (kn < 1) = false := decide_eq_false (by omega)
    have hk9 : decide ((kn : Int) < 1) = false := decide_eq_false (by omega)
    have hka : 1 < kn := by omega
    have hkb : decide (1 < kn) = true := decide_eq_true (by omega)
    have hkc : decide ((1 : Int) < (kn : Int)) = true := decide_eq_true (by omega)
    have HN := LH (show ownN 13 [] [] n ⟨l1, l2, l3⟩ ⟨r1, r2, r3⟩ occ kn = false from by unfold ownN; rw [Bool.eq_false_iff]; simp; omega)
    clear hk1 hk2
    go_enter Tryd.func35, Tryd.ntmps35
    go_wp2
    go_ret
    exact ⟨ret_bool HN.out.symm, by first | apply below2 | apply below3 | apply below4⟩
   subst hk2
   by_cases ho1 : 0 < occ.length
   case pos =>
    have ho3 : decide ((0 : Int) < (occ.length : Int)) = true := decide_eq_true (by omega)
    have HN := LH (show ownN 13 [] [] n ⟨l1, l2, l3⟩ ⟨r1, r2, r3⟩ occ 1 = false from by cases occ with | nil => (exact absurd ho1 (Nat.lt_irrefl _)) | cons c t => (unfold ownN; simp))
    go_enter Tryd.func35, Tryd.ntmps35
    go_wp2
    go_ret
    exact ⟨ret_bool HN.out.symm, by first | apply below2 | apply below3 | apply below4⟩
   obtain rfl : occ = [] := List.eq_nil_of_length_eq_zero (by omega)
   have HKN := LH (trivial)
   clear ho1
   have HN := LH (show ownN 13 [] [] n ⟨l1, l2, l3⟩ ⟨r1, r2, r3⟩ [] 1 = true from by
    have h1 := HNN.out; have h2 := HKN.out
    obtain rfl : n = 0 := by omega
    unfold ownN; simp [HE1.out, HE2.out, h2])
   go_enter Tryd.func35, Tryd.ntmps35
   go_wp2
   go_loop [124] (fun iv => iv = .int .i64 0) (fun _ => 0)
   case atStart => exact rfl
   case round =>
    subst hrel
    go_wp2
    go_ret
    exact ⟨ret_bool HN.out.symm, by first | apply below2 | apply below4⟩
theorem own_14 : OwnOk 14 := by
 intro n field text lo hi occ oa ka oc kn kc w F hA hO ht
 obtain ⟨l1, l2, l3⟩ := lo; obtain ⟨r1, r2, r3⟩ := hi
 have a0 : w.cell? ⟨17, 140, none⟩ = some (.bool false) := hA.1 140 _ rfl
 have a1 : w.cell? ⟨17, 141, none⟩ = some (.bool false) := hA.1 141 _ rfl
 have a2 : w.cell? ⟨17, 142, none⟩ = some (.int .i64 0) := hA.1 142 _ rfl
 have a3 : w.cell? ⟨17, 143, none⟩ = some (.int .i64 999999999) := hA.1 143 _ rfl
 have a4 : w.cell? ⟨17, 144, none⟩ = some (.bool false) := hA.1 144 _ rfl
 have a5 : w.cell? ⟨17, 145, none⟩ = some (.bool false) := hA.1 145 _ rfl
 have a6 : w.cell? ⟨17, 146, none⟩ = some (.int .i64 1) := hA.1 146 _ rfl
 have a7 : w.cell? ⟨17, 147, none⟩ = some (.int .i64 1) := hA.1 147 _ rfl
 have a8 : w.cell? ⟨17, 148, none⟩ = some (.int .i64 5) := hA.1 148 _ rfl
 have a9 : w.cell? ⟨17, 149, none⟩ = some (.string ⟨#[94]⟩) := hA.1 149 _ rfl
 have hag := hA.2
 have honb : occ.length ≤ 9223372036854775807 := by have h : occ.length ≤ maxLen := Nat.le_trans hO.2.1 hO.2.2.1; unfold maxLen at h; omega
 have HO := LH hO; have HT := LH ht
 have q1 := fun W => bd_nez l1 l2 l3 W; have q2 := fun W => bd_nez r1 r2 r3 W
 have q3 := fun op x y u W => bd_grd l1 l2 (str l3) op x y u W; have q4 := fun op x y u W => bd_grd r1 r2 (str r3) op x y u W
 generalize hb1 : Bd.nil ⟨l1, l2, l3⟩ = b1 at *; generalize hb2 : Bd.nil ⟨r1, r2, r3⟩ = b2 at *
 have HE1 := LH hb1; have HE2 := LH hb2
 clear hb1 hb2 hA hO ht
 simp only []
 by_cases hf : field = []
 case neg =>
  have hf1 : (str field).toList.isEmpty = false := by rw [str_toList]; cases field; exact absurd rfl hf; rfl
  have hf2 : ¬ (str field).toList = [] := by rw [str_toList]; exact hf
  have HN := LH (show ownN 14 field text n ⟨l1, l2, l3⟩ ⟨r1, r2, r3⟩ occ kn = false from by unfold ownN; simp [hf])
  clear hf
  go_enter Tryd.func35, Tryd.ntmps35
  go_wp2
  go_ret
  exact ⟨ret_bool HN.out.symm, by first | apply below2 | apply below3 | apply below4⟩
 subst hf
 have hse : (str []).toList = [] := str_toList []; have hse2 : (str []).toList.isEmpty = true := by rw [str_toList]; rfl
 by_cases hx : text = []
 case neg =>
  have hx1 : (str text).toList.isEmpty = false := by rw [str_toList]; cases text; exact absurd rfl hx; rfl
  have hx2 : ¬ (str text).toList = [] := by rw [str_toList]; exact hx
  have HN := LH (show ownN 14 [] text n ⟨l1, l2, l3⟩ ⟨r1, r2, r3⟩ occ kn = false from by unfold ownN; simp [hx])
  clear hx
  go_enter Tryd.func35, Tryd.ntmps35
  go_wp2
  go_ret
  exact ⟨ret_bool HN.out.symm, by first | apply below2 | apply below3 | apply below4⟩
 subst hx
 by_cases hn1 : n < 0
 case pos =>
  have hn3 : decide (n < 0) = true := decide_eq_true hn1
  have HN := LH (show ownN 14 [] [] n ⟨l1, l2, l3⟩ ⟨r1, r2, r3⟩ occ kn = false from by have hq : numB n = false := (by unfold numB maxNum; rw [decide_eq_false (show ¬ 0 ≤ n by omega), Bool.false_and]); unfold ownN; simp [hq])
  clear hn1
  go_enter Tryd.func35, Tryd.ntmps35
  go_wp2
  go_ret
  exact ⟨ret_bool HN.out.symm, by first | apply below2 | apply below3 | apply below4⟩
 have hn3 : decide (n < 0) = false := decide_eq_false hn1
 by_cases hn2 : 999999999 < n
 case pos =>
  have hn4 : decide (999999999 < n) = true := decide_eq_true hn2
  have HN := LH (show ownN 14 [] [] n ⟨l1, l2, l3⟩ ⟨r1, r2, r3⟩ occ kn = false from by have hq : numB n = false := (by unfold numB maxNum; rw [decide_eq_false (show ¬ n ≤ 999999999 by omega), Bool.and_false]); unfold ownN; simp [hq])
  clear hn1 hn2
  go_enter Tryd.func35, Tryd.ntmps35
  go_wp2
  go_ret
  exact ⟨ret_bool HN.out.symm, by first | apply below2 | apply below3 | apply below4⟩
 have hn4 : decide (999999999 < n) = false := decide_eq_false hn2
 have HNN := LH (show 0 ≤ n ∧ n ≤ 999999999 from by omega)
 clear hn1 hn2
 cases b1 with
 | false =>
  have HN := LH (show ownN 14 [] [] n ⟨l1, l2, l3⟩ ⟨r1, r2, r3⟩ occ kn = false from by unfold ownN; simp [HE1.out])
  go_enter Tryd.func35, Tryd.ntmps35
  go_wp2
  go_ret
  exact ⟨ret_bool HN.out.symm, by first | apply below2 | apply below3 | apply below4⟩
 | true =>
  cases b2 with
  | false =>
   have HN := LH (show ownN 14 [] [] n ⟨l1, l2, l3⟩ ⟨r1, r2, r3⟩ occ kn = false from by unfold ownN; simp [HE2.out])
   go_enter Tryd.func35, Tryd.ntmps35
   go_wp2
   go_ret
   exact ⟨ret_bool HN.out.symm, by first | apply below2 | apply below3 | apply below4⟩
  | true =>
   by_cases hk1 : kn = 0
   case pos =>
    subst hk1
    have HN := LH (show ownN 14 [] [] n ⟨l1, l2, l3⟩ ⟨r1, r2, r3⟩ occ 0 = false from by unfold ownN; simp)
    go_enter Tryd.func35, Tryd.ntmps35
    go_wp2
    go_ret
    exact ⟨ret_bool HN.out.symm, by first | apply below2 | apply below3 | apply below4⟩
   by_cases hk2 : kn = 1
   case neg =>
    have hk5 : 0 < kn := by omega
    have hk6 : 1 ≤ kn := by omega
    have hk7 : decide (0 < kn) = true := decide_eq_true (by omega)
    have hk8 : decide (kn < 1) = false := decide_eq_false (by omega)
    have hk9 : decide ((kn : Int) < 1) = false := decide_eq_false (by omega)
    have hka : 1 < kn := by omega
    have hkb : decide (1 < kn) = true := decide_eq_true (by omega)
    have hkc : decide ((1 : Int) < (kn : Int)) = true := decide_eq_true (by omega)
    have HN := LH (show ownN 14 [] [] n ⟨l1, l2, l3⟩ ⟨r1, r2, r3⟩ occ kn = false from by unfold ownN; rw [Bool.eq_false_iff]; simp; omega)
    clear hk1 hk2
    go_enter Tryd.func35, Tryd.ntmps35
    go_wp2
    go_ret
    exact ⟨ret_bool HN.out.symm, by first | apply below2 | apply below3 | apply below4⟩
   subst hk2
   by_cases ho1 : 0 < occ.length
   case pos =>
    have ho3 : decide ((0 : Int) < (occ.length : Int)) = true := decide_eq_true (by omega)
    have HN := LH (show ownN 14 [] [] n ⟨l1, l2, l3⟩ ⟨r1, r2, r3⟩ occ 1 = false from by cases occ with | nil => (exact absurd ho1 (Nat.lt_irrefl _)) | cons c t => (unfold ownN; simp))
    go_enter Tryd.func35, Tryd.ntmps35
    go_wp2
    go_ret
    exact ⟨ret_bool HN.out.symm, by first | apply below2 | apply below3 | apply below4⟩
   obtain rfl : occ = [] := List.eq_nil_of_length_eq_zero (by omega)
   have HKN := LH (trivial)
   clear ho1
   have HN := LH (show ownN 14 [] [] n ⟨l1, l2, l3⟩ ⟨r1, r2, r3⟩ [] 1 = true from by
    have h1 := HNN.out; have h2 := HKN.out
    have h4 : numB n = true := numB_iff.2 h1
    unfold ownN; simp [HE1.out, HE2.out, h2, h4])
   go_enter Tryd.func35, Tryd.ntmps35
   go_wp2
   go_loop [124] (fun iv => iv = .int .i64 0) (fun _ => 0)
   case atStart => exact rfl
   case round =>
    subst hrel
    go_wp2
    go_ret
    exact ⟨ret_bool HN.out.symm, by first | apply below2 | apply below4⟩
theorem own_15 : OwnOk 15 := by
 intro n field text lo hi occ oa ka oc kn kc w F hA hO ht
 obtain ⟨l1, l2, l3⟩ := lo; obtain ⟨r1, r2, r3⟩ := hi
 have a0 : w.cell? ⟨17, 150, none⟩ = some (.bool false) := hA.1 150 _ rfl
 have a1 : w.cell? ⟨17, 151, none⟩ = some (.bool false) := hA.1 151 _ rfl
 have a2 : w.cell? ⟨17, 152, none⟩ = some (.int .i64 0) := hA.1 152 _ rfl
 have a3 : w.cell? ⟨17, 153, none⟩ = some (.int .i64 999999999) := hA.1 153 _ rfl
 have a4 : w.cell? ⟨17, 154, none⟩ = some (.bool false) := hA.1 154 _ rfl
 have a5 : w.cell? ⟨17, 155, none⟩ = some (.bool false) := hA.1 155 _ rfl
 have a6 : w.cell? ⟨17, 156, none⟩ = some (.int .i64 1) := hA.1 156 _ rfl
 have a7 : w.cell? ⟨17, 157, none⟩ = some (.int .i64 1) := hA.1 157 _ rfl
 have a8 : w.cell? ⟨17, 158, none⟩ = some (.int .i64 5) := hA.1 158 _ rfl
 have a9 : w.cell? ⟨17, 159, none⟩ = some (.string ⟨#[94, 61]⟩) := hA.1 159 _ rfl
 have hag := hA.2
 have honb : occ.length ≤ 9223372036854775807 := by have h : occ.length ≤ maxLen := Nat.le_trans hO.2.1 hO.2.2.1; unfold maxLen at h; omega
 have HO := LH hO; have HT := LH ht
 have q1 := fun W => bd_nez l1 l2 l3 W; have q2 := fun W => bd_nez r1 r2 r3 W
 have q3 := fun op x y u W => bd_grd l1 l2 (str l3) op x y u W; have q4 := fun op x y u W => bd_grd r1 r2 (str r3) op x y u W
 generalize hb1 : Bd.nil ⟨l1, l2, l3⟩ = b1 at *; generalize hb2 : Bd.nil ⟨r1, r2, r3⟩ = b2 at *
 have HE1 := LH hb1; have HE2 := LH hb2
 clear hb1 hb2 hA hO ht
 simp only []
 by_cases hf : field = []
 case neg =>
  have hf1 : (str field).toList.isEmpty = false := by rw [str_toList]; cases field; exact absurd rfl hf; rfl
  have hf2 : ¬ (str field).toList = [] := by rw [str_toList]; exact hf
  have HN := LH (show ownN 15 field text n ⟨l1, l2, l3⟩ ⟨r1, r2, r3⟩ occ kn = false from by unfold ownN; simp [hf])
  clear hf
  go_enter Tryd.func35, Tryd.ntmps35
  go_wp2
  go_ret
  exact ⟨ret_bool HN.out.symm, by first | apply below2 | apply below3 | apply below4⟩
 subst hf
 have hse : (str []).toList = [] := str_toList []; have hse2 : (str []).toList.isEmpty = true := by rw [str_toList]; rfl
 by_cases hx : text = []
 case neg =>
  have hx1 : (str text).toList.isEmpty = false := by rw [str_toList]; cases text; exact absurd rfl hx; rfl
  have hx2 : ¬ (str text).toList = [] := by rw [str_toList]; exact hx
  have HN := LH (show ownN 15 [] text n ⟨l1, l2, l3⟩ ⟨r1, r2, r3⟩ occ kn = false from by unfold ownN; simp [hx])
  clear hx
  go_enter Tryd.func35, Tryd.ntmps35
  go_wp2
  go_ret
  exact ⟨ret_bool HN.out.symm, by first | apply below2 | apply below3 | apply below4⟩
 subst hx
 by_cases hn1 : n < 0
 case pos =>
  have hn3 : decide (n < 0) = true := decide_eq_true hn1
  have HN := LH (show ownN 15 [] [] n ⟨l1, l2, l3⟩ ⟨r1, r2, r3⟩ occ kn = false from by have hq : numB n = false := (by unfold numB maxNum; rw [decide_eq_false (show ¬ 0 ≤ n by omega), Bool.false_and]); unfold ownN; simp [hq])
  clear hn1
  go_enter Tryd.func35, Tryd.ntmps35
  go_wp2
  go_ret
  exact ⟨ret_bool HN.out.symm, by first | apply below2 | apply below3 | apply below4⟩
 have hn3 : decide (n < 0) = false := decide_eq_false hn1
 by_cases hn2 : 999999999 < n
 case pos =>
  have hn4 : decide (999999999 < n) = true := decide_eq_true hn2
  have HN := LH (show ownN 15 [] [] n ⟨l1, l2, l3⟩ ⟨r1, r2, r3⟩ occ kn = false from by have hq : numB n = false := (by unfold numB maxNum; rw [decide_eq_false (show ¬ n ≤ 999999999 by omega), Bool.and_false]); unfold ownN; simp [hq])
  clear hn1 hn2
  go_enter Tryd.func35, Tryd.ntmps35
  go_wp2
  go_ret
  exact ⟨ret_bool HN.out.symm, by first | apply below2 | apply below3 | apply below4⟩
 have hn4 : decide (999999999 < n) = false := decide_eq_false hn2
 have HNN := LH (show 0 ≤ n ∧ n ≤ 999999999 from by omega)
 clear hn1 hn2
 cases b1 with
 | false =>
  have HN := LH (show ownN 15 [] [] n ⟨l1, l2, l3⟩ ⟨r1, r2, r3⟩ occ kn = false from by unfold ownN; simp [HE1.out])
  go_enter Tryd.func35, Tryd.ntmps35
  go_wp2
  go_ret
  exact ⟨ret_bool HN.out.symm, by first | apply below2 | apply below3 | apply below4⟩
 | true =>
  cases b2 with
  | false =>
   have HN := LH (show ownN 15 [] [] n ⟨l1, l2, l3⟩ ⟨r1, r2, r3⟩ occ kn = false from by unfold ownN; simp [HE2.out])
   go_enter Tryd.func35, Tryd.ntmps35
   go_wp2
   go_ret
   exact ⟨ret_bool HN.out.symm, by first | apply below2 | apply below3 | apply below4⟩
  | true =>
   by_cases hk1 : kn = 0
   case pos =>
    subst hk1
    have HN := LH (show ownN 15 [] [] n ⟨l1, l2, l3⟩ ⟨r1, r2, r3⟩ occ 0 = false from by unfold ownN; simp)
    go_enter Tryd.func35, Tryd.ntmps35
    go_wp2
    go_ret
    exact ⟨ret_bool HN.out.symm, by first | apply below2 | apply below3 | apply below4⟩
   by_cases hk2 : kn = 1
   case neg =>
    have hk5 : 0 < kn := by omega
    have hk6 : 1 ≤ kn := by omega
    have hk7 : decide (0 < kn) = true := decide_eq_true (by omega)
    have hk8 : decide (kn < 1) = false := decide_eq_false (by omega)
    have hk9 : decide ((kn : Int) < 1) = false := decide_eq_false (by omega)
    have hka : 1 < kn := by omega
    have hkb : decide (1 < kn) = true := decide_eq_true (by omega)
    have hkc : decide ((1 : Int) < (kn : Int)) = true := decide_eq_true (by omega)
    have HN := LH (show ownN 15 [] [] n ⟨l1, l2, l3⟩ ⟨r1, r2, r3⟩ occ kn = false from by unfold ownN; rw [Bool.eq_false_iff]; simp; omega)
    clear hk1 hk2
    go_enter Tryd.func35, Tryd.ntmps35
    go_wp2
    go_ret
    exact ⟨ret_bool HN.out.symm, by first | apply below2 | apply below3 | apply below4⟩
   subst hk2
   by_cases ho1 : 0 < occ.length
   case pos =>
    have ho3 : decide ((0 : Int) < (occ.length : Int)) = true := decide_eq_true (by omega)
    have HN := LH (show ownN 15 [] [] n ⟨l1, l2, l3⟩ ⟨r1, r2, r3⟩ occ 1 = false from by cases occ with | nil => (exact absurd ho1 (Nat.lt_irrefl _)) | cons c t => (unfold ownN; simp))
    go_enter Tryd.func35, Tryd.ntmps35
    go_wp2
    go_ret
    exact ⟨ret_bool HN.out.symm, by first | apply below2 | apply below3 | apply below4⟩
   obtain rfl : occ = [] := List.eq_nil_of_length_eq_zero (by omega)
   have HKN := LH (trivial)
   clear ho1
   have HN := LH (show ownN 15 [] [] n ⟨l1, l2, l3⟩ ⟨r1, r2, r3⟩ [] 1 = true from by
    have h1 := HNN.out; have h2 := HKN.out
    have h4 : numB n = true := numB_iff.2 h1
    unfold ownN; simp [HE1.out, HE2.out, h2, h4])
   go_enter Tryd.func35, Tryd.ntmps35
   go_wp2
   go_loop [124] (fun iv => iv = .int .i64 0) (fun _ => 0)
   case atStart => exact rfl
   case round =>
    subst hrel
    go_wp2
    go_ret
    exact ⟨ret_bool HN.out.symm, by first | apply below2 | apply below4⟩
theorem own_any (kind : Int) : OwnOk kind := by
 by_cases h : kind < 1 ∨ 15 < kind
 ·exact own_out h
 ·have h2 : kind = 1 ∨ kind = 2 ∨ kind = 3 ∨ kind = 4 ∨ kind = 5 ∨ kind = 6 ∨ kind = 7 ∨ kind = 8 ∨ kind = 9 ∨ kind = 10 ∨ kind = 11 ∨ kind = 12 ∨ kind = 13 ∨ kind = 14 ∨ kind = 15 := by omega
  rcases h2 with rfl | rfl | rfl | rfl | rfl | rfl | rfl | rfl | rfl | rfl | rfl | rfl | rfl | rfl | rfl
  ·exact own_1
  ·exact own_2
  ·exact own_3
  ·exact own_4
  ·exact own_5
  ·exact own_6
  ·exact own_7
  ·exact own_8
  ·exact own_9
  ·exact own_10
  ·exact own_11
  ·exact own_12
  ·exact own_13
  ·exact own_14
  ·exact own_15
mutual
def bkN : Nd → Nat
 | .mk _ field text _ lo hi occ ks => 1 + field.length + text.length + lo.text.length + hi.text.length + occ.length + bkNs ks
def bkNs : List Nd → Nat
 | [] => 0
 | k :: ks => bkN k + bkNs ks
end
theorem bk_pos (t : Nd) : 1 ≤ bkN t := by cases t; rw [bkN]; omega
theorem bkNs_mem : ∀ {l : List Nd} {t : Nd}, t ∈ l → bkN t ≤ bkNs l
 | k :: ks, t, h => by
  rw [bkNs]
  rcases List.mem_cons.1 h with rfl | h
  ·omega
  ·have := bkNs_mem h; omega
theorem bkNs_len : ∀ l : List Nd, l.length ≤ bkNs l
 | [] => Nat.zero_le _
 | k :: ks => by
  have := bkNs_len ks
  have := bk_pos k
  rw [bkNs, List.length_cons]; omega
theorem kid_lt {kind n : Int} {field text : List UInt8} {lo hi : Bd} {occ : List Int} {ks : List Nd} {t : Nd} (h : t ∈ ks) : SizeOf.sizeOf t < SizeOf.sizeOf (Nd.mk kind field text n lo hi occ ks) := by
 have := List.sizeOf_lt_of_mem h
 simp
 omega
theorem nd_ind {P : Nd → Prop} (h : ∀ kind n field text lo hi occ ks, (∀ t ∈ ks, P t) → P (.mk kind field text n lo hi occ ks)) (t : Nd) : P t := by
 have h2 : ∀ (N : Nat) (t : Nd), SizeOf.sizeOf t ≤ N → P t := by
  intro N
  induction N with
  | zero => intro t ht; cases t; simp at ht
  | succ N ih =>
   intro t ht
   cases t with
   | mk kind field text n lo hi occ ks => exact h _ _ _ _ _ _ _ _ fun u hu => ih u (by have := kid_lt (kind := kind) (n := n) (field := field) (text := text) (lo := lo) (hi := hi) (occ := occ) hu; omega)
 exact h2 _ t (Nat.le_refl _)
theorem RdF.inP {α : Type} {S : Shape α} {w : World} {F : Nat → Prop} {s : Sl} {l : List α} (h : RdF S w F s l) (hS : S.Ok) : RdF S w (fun b => b < w.heap.size) s l := by
 obtain ⟨h1, h2, h3, h4, h5⟩ := h
 refine ⟨h1, h2, h3, fun hn => ?_, h5⟩
 obtain ⟨a, e, hb, hc⟩ := h4 hn
 refine ⟨a, e, ?_, hc⟩
 have hl : 0 < (S.cells l).length := by rw [Shape.cells_length hS]; exact Nat.mul_pos hn hS.pos
 have h6 := hc 0 _ (List.getElem?_eq_getElem hl)
 have := World.block_lt_of_cell? w _ h6
 rw [block_of_add] at this; exact this
def At12 (w : World) (b : Addr) (x : NV) : Prop := b.block < w.heap.size ∧ w.cell? b = some (.int .i64 x.kind) ∧ w.cell? ⟨b.block, b.off + 1, none⟩ = some (.string (str x.field)) ∧ w.cell? ⟨b.block, b.off + 2, none⟩ = some (.string (str x.text)) ∧ w.cell? ⟨b.block, b.off + 3, none⟩ = some (.int .i64 x.n) ∧
 w.cell? ⟨b.block, b.off + 4, none⟩ = some (.bool x.lo.open_) ∧ w.cell? ⟨b.block, b.off + 5, none⟩ = some (.bool x.lo.in_) ∧ w.cell? ⟨b.block, b.off + 6, none⟩ = some (.string (str x.lo.text)) ∧ w.cell? ⟨b.block, b.off + 7, none⟩ = some (.bool x.hi.open_) ∧ w.cell? ⟨b.block, b.off + 8, none⟩ = some (.bool x.hi.in_) ∧
 w.cell? ⟨b.block, b.off + 9, none⟩ = some (.string (str x.hi.text)) ∧ w.cell? ⟨b.block, b.off + 10, none⟩ = some (.slice x.occ.a x.occ.n x.occ.c) ∧ w.cell? ⟨b.block, b.off + 11, none⟩ = some (.slice x.kids.a x.kids.n x.kids.c)
theorem kid_cells {w : World} {F : Nat → Prop} {A : Option Addr} {n c : Nat} {l : List NV} (h : RdF ndS w F ⟨A, n, c⟩ l) {k : Nat} (hk : k < l.length) : ∃ a, A = some a ∧ At12 w (a.add (k * 12)) l[k] := by
 obtain ⟨a, e, hb, h0, hj⟩ := (((h.inP ndOk).rd (fun _ h => h)).at2 ndOk hk)
 exact ⟨a, e, hb, h0 _ rfl, hj 0 _ (by decide) rfl, hj 1 _ (by decide) rfl, hj 2 _ (by decide) rfl, hj 3 _ (by decide) rfl, hj 4 _ (by decide) rfl, hj 5 _ (by decide) rfl, hj 6 _ (by decide) rfl, hj 7 _ (by decide) rfl, hj 8 _ (by decide) rfl, hj 9 _ (by decide) rfl, hj 10 _ (by decide) rfl⟩
structure KidsR (w : World) (F : Nat → Prop) (A : Option Addr) (c : Nat) (ks : List Nd) : Prop where
 ex : ∃ nl : List NV, RdF ndS w F ⟨A, ks.length, c⟩ nl ∧ nl.length = ks.length ∧ ∀ (i : Nat) (x : NV) (t : Nd), nl[i]? = some x → ks[i]? = some t → NdR w F x t
theorem KidsR.belowW {w w' : World} {F : Nat → Prop} {A : Option Addr} {c : Nat} {ks : List Nd} (h : KidsR w F A c ks) (hb : Below w.heap.size w w') : KidsR w' F A c ks := by
 obtain ⟨nl, h1, h2, h3⟩ := h
 exact ⟨nl, h1.belowW hb, h2, fun i x t hx ht => (h3 i x t hx ht).belowW hb⟩
theorem KidsR.len {w : World} {F : Nat → Prop} {A : Option Addr} {c : Nat} {ks : List Nd} (h : KidsR w F A c ks) : ks.length ≤ c ∧ c ≤ maxLen := by
 obtain ⟨nl, h1, h2, h3⟩ := h
 exact ⟨h1.2.1, h1.2.2.1⟩
theorem KidsR.kid {w : World} {F : Nat → Prop} {A : Option Addr} {c : Nat} {ks : List Nd} (h : KidsR w F A c ks) {k : Nat} (hk : k < ks.length) : ∃ (a : Addr) (x : NV), A = some a ∧ At12 w (a.add (k * 12)) x ∧ NdR w F x ks[k] := by
 obtain ⟨nl, h1, h2, h3⟩ := h
 have hk2 : k < nl.length := by omega
 obtain ⟨a, e, hc⟩ := kid_cells h1 hk2
 exact ⟨a, nl[k], e, hc, h3 k _ _ (List.getElem?_eq_getElem hk2) (List.getElem?_eq_getElem hk)⟩
theorem NdR.open_ {w : World} {F : Nat → Prop} {x : NV} {kind n : Int} {field text : List UInt8} {lo hi : Bd} {occ : List Int} {ks : List Nd} (h : NdR w F x (.mk kind field text n lo hi occ ks)) :
  ∃ (oa ka : Option Addr) (oc kc : Nat), x.val = .agg #[.int .i64 kind, .string (str field), .string (str text), .int .i64 n, .bool lo.open_, .bool lo.in_, .string (str lo.text), .bool hi.open_, .bool hi.in_, .string (str hi.text), .slice oa occ.length oc, .slice ka ks.length kc] ∧ x = ⟨kind, field, text, n, lo, hi, ⟨oa, occ.length, oc⟩, ⟨ka, ks.length, kc⟩⟩ ∧
   RdF folS w F ⟨oa, occ.length, oc⟩ occ ∧ KidsR w F ka kc ks := by
 cases h with
 | @mk _ _ _ _ _ _ so sk _ nl _ hso hsk hnl hall =>
  obtain ⟨oa, on, oc⟩ := so
  obtain ⟨ka, kn, kc⟩ := sk
  have e1 : on = occ.length := hso.1
  have e2 : kn = ks.length := hsk.1.trans hnl
  subst e1 e2
  exact ⟨oa, ka, oc, kc, rfl, rfl, hso, ⟨nl, hsk, hnl, hall⟩⟩
theorem goodNs_at {ks : List Nd} (h : ∀ (i : Nat) (t : Nd), ks[i]? = some t → goodN t = true) : goodNs ks = true := (goodNs_all ks).2 fun t ht => by
 obtain ⟨i, hi⟩ := List.getElem?_of_mem ht
 exact h i t hi
theorem goodNs_bad {ks : List Nd} {k : Nat} (hk : k < ks.length) (h : goodN ks[k] = false) : goodNs ks = false := by
 rw [Bool.eq_false_iff]
 intro h2
 have := (goodNs_all ks).1 h2 _ (List.getElem_mem hk)
 rw [h] at this; cases this
def KidRel (ks : List Nd) (wb : World) (iv : Value) (wr : World) : Prop := ∃ j : Nat, j ≤ ks.length ∧ iv = .int .i64 (j : Int) ∧ (∀ (i : Nat) (t : Nd), i < j → ks[i]? = some t → goodN t = true) ∧ Below wb.heap.size wb wr
theorem ret_int15 {a b : Int} (h : a = b) : Ending.returned (.int .i64 a) = .returned (.int .i64 b) := by rw [h]
def PckRet (v : Value) (t : Nd) (w : World) (e : Ending) (w' : World) : Prop := Below w.heap.size w w' ∧ e = .returned (if goodN t = true then .nilIface else v)
def PckOk (t : Nd) : Prop := ∀ (w : World) (F : Nat → Prop) (x : NV) (ea : List Addr) (ei : Nat), NdR w F x t → bkN t ≤ 900000000000 → AskEnv w → ErrAt w 0 (errI ea ei) → Calls Tryd.prog 17 #[x.val] w (PckRet (errI ea ei) t w)
theorem PckRet.yes {v : Value} {t : Nd} {w w' : World} (h : Below w.heap.size w w') (hg : goodN t = true) : PckRet v t w (.returned .nilIface) w' := ⟨h, by rw [if_pos hg]⟩
theorem PckRet.no {v : Value} {t : Nd} {w w' : World} (h : Below w.heap.size w w') (hg : goodN t = false) : PckRet v t w (.returned v) w' := ⟨h, by rw [if_neg (by rw [hg]; decide)]⟩
theorem PckRet.iyes {v : Value} {t : Nd} {w w' : World} {e : Ending} (h : PckRet v t w e w') (hg : goodN t = true) : Below w.heap.size w w' ∧ e = .returned .nilIface := by
 obtain ⟨h1, h2⟩ := h
 rw [if_pos hg] at h2
 exact ⟨h1, h2⟩
theorem PckRet.ino {v : Value} {t : Nd} {w w' : World} {e : Ending} (h : PckRet v t w e w') (hg : goodN t = false) : Below w.heap.size w w' ∧ e = .returned v := by
 obtain ⟨h1, h2⟩ := h
 rw [if_neg (by rw [hg]; decide)] at h2
 exact ⟨h1, h2⟩
theorem pcheck_of (kind n : Int) (field text : List UInt8) (lo hi : Bd) (occ : List Int) (ks : List Nd) (ih : ∀ t ∈ ks, PckOk t) : PckOk (.mk kind field text n lo hi occ ks) := by
 intro w F x ea ei hx hbk hA hE
 obtain ⟨oa, ka, oc, kc, e, -, hO, hK⟩ := hx.open_
 rw [e]
 clear e hx x
 have hkl : ks.length ≤ 9223372036854775807 := by have h := Nat.le_trans hK.len.1 hK.len.2; unfold maxLen at h; omega
 have hb : text.length ≤ 900000000000 ∧ bkNs ks ≤ 900000000000 := by rw [bkN] at hbk; omega
 have HIH := LH (fun t (ht : t ∈ ks) => (⟨ih t ht, Nat.le_trans (bkNs_mem ht) hb.2⟩ : PckOk t ∧ bkN t ≤ 900000000000))
 have HK := LH hK; have HAE := LH hA; have HEE := LH hE
 have HI := LH (fun (W : World) (hW : Below w.heap.size w W) => own_any kind n field text lo hi occ oa ka oc ks.length kc W F (hA.below hW) (hO.belowW hW) hb.1)
 have HGN := LH (show goodN (.mk kind field text n lo hi occ ks) = (ownN kind field text n lo hi occ ks.length && goodNs ks) from by rw [goodN])
 have hz1 := fun W => errI_nnil ea ei W
 have hz2 := fun op x y W => errI_guard0 ea ei op x y W
 have HIH2 := LH (fun (t : Nd) (ht : t ∈ ks) (W : World) (hW : Below w.heap.size w W) (y : NV) (hy : NdR W F y t) => (HIH.out t ht).1 W F y ea ei hy (HIH.out t ht).2 (hA.below hW) (hE.below hE.2 hW))
 generalize hv : errI ea ei = v at *
 generalize hT : Nd.mk kind field text n lo hi occ ks = T at *
 generalize hOW : ownN kind field text n lo hi occ ks.length = ow at *
 clear hO hK hbk hb ih hT hOW hA hE hv
 have HBX := LH ((Below.refl w.heap.size w).alloc (Nat.le_refl _) (.cells #[.int .i64 kind, .string (str field), .string (str text), .int .i64 n, .bool lo.open_, .bool lo.in_, .string (str lo.text), .bool hi.open_, .bool hi.in_, .string (str hi.text), .slice oa occ.length oc, .slice ka ks.length kc] 27))
 go_enter Tryd.func17, Tryd.ntmps17
 go_wp2_with fail
 refine (HI.out _ HBX.out).mono ?_
 rintro e w2 ⟨rfl, hb2⟩
 have HB2 := LH (HBX.out.trans (hb2.mono HBX.out.size))
 have hblk := ((Blk.new w 27 #[.int .i64 kind, .string (str field), .string (str text), .int .i64 n, .bool lo.open_, .bool lo.in_, .string (str lo.text), .bool hi.open_, .bool hi.in_, .string (str hi.text), .slice oa occ.length oc, .slice ka ks.length kc]).belowW hb2)
 have x11 := hblk.cell 11
 simp only [List.getElem?_toArray, List.getElem?_cons_zero, List.getElem?_cons_succ] at x11
 clear hb2 hblk
 cases ow with
 | false =>
  have hv1 := (HEE.out.below HEE.out.2 HB2.out).1
  have HN := LH (show goodN T = false from by rw [HGN.out]; rfl)
  go_wp2
  go_ret
  exact .no HB2.out HN.out
 | true =>
  go_wp2
  clear x11
  go_loopw [12] (fun iv wr => KidRel ks w2 iv wr) (fun iv _ => ks.length - (intOf iv).toNat)
  case atStart => exact ⟨0, Nat.zero_le _, rfl, fun i t h => absurd h (Nat.not_lt_zero _), Below.refl _ _⟩
  case round =>
   obtain ⟨j, hj, rfl, hall, hb⟩ := hrel
   have HALL := LH hall
   have HBR := LH hb
   have HBW := LH (HB2.out.trans (hb.mono HB2.out.size))
   clear hall hb
   by_cases hlt : j < ks.length
   ·obtain ⟨a, y, rfl, ⟨hab, q0, q1, q2, q3, q4, q5, q6, q7, q8, q9, q10, q11⟩, hy⟩ := (HK.out.belowW HBW.out).kid hlt
    have HGT := LH (fun (h : goodN ks[j] = false) => goodNs_bad hlt h)
    have HX := LH (List.getElem?_eq_getElem hlt)
    have hih := HIH2.out ks[j] (List.getElem_mem hlt)
    generalize ks[j] = t at *
    obtain ⟨kd3, fl3, tx3, xn3, ⟨la3, lb3, lc3⟩, ⟨ra3, rb3, rc3⟩, ⟨oa3, on3, oc3⟩, ⟨ka3, kn3, kc3⟩⟩ := y
    simp only [] at q0 q1 q2 q3 q4 q5 q6 q7 q8 q9 q10 q11
    have HBY := LH (show Below wr.heap.size wr (wr.alloc (.cells #[.int .i64 kd3, .string (str fl3), .string (str tx3), .int .i64 xn3, .bool la3, .bool lb3, .string (str lc3), .bool ra3, .bool rb3, .string (str rc3), .slice oa3 on3 oc3, .slice ka3 kn3 kc3] 27)) from (Below.refl _ _).alloc (Nat.le_refl _) _)
    have HC := LH (hih _ (HBW.out.trans (HBY.out.mono HBW.out.size)) _ (hy.belowW HBY.out))
    unfold NV.val at HC
    simp only [] at HC
    clear hy hih
    go_wp2_with fail
    refine HC.out.mono ?_
    intro e w3 hret
    cases hg : goodN t with
    | false =>
     obtain ⟨hb3, rfl⟩ := hret.ino hg
     have HB3W := LH (HBW.out.trans ((HBY.out.trans (hb3.mono HBY.out.size)).mono HBW.out.size))
     have HN := LH (show goodN T = false from by rw [HGN.out, HGT.out hg]; rfl)
     have hv1 := (HEE.out.below HEE.out.2 HB3W.out).1
     clear hg hret hb3
     go_wp2
     go_ret
     exact .no HB3W.out HN.out
    | true =>
     obtain ⟨hb3, rfl⟩ := hret.iyes hg
     have HB3 := LH (HBR.out.trans ((HBY.out.trans (hb3.mono HBY.out.size)).mono HBR.out.size))
     have HG := LH hg
     clear hg hret hb3
     go_wp2
     go_roundw
     case rel =>
      refine ⟨j + 1, hlt, by go_num, fun i u hi hu => ?_, HB3.out⟩
      by_cases hij : i = j
      ·subst hij; rw [HX.out] at hu; injection hu with hu; rw [← hu]; exact HG.out
      ·exact HALL.out i u (by omega) hu
     case measure => simp [intOf]; omega
   ·have HN := LH (show goodN T = true from by
     rw [HGN.out, goodNs_at fun i t hi => HALL.out i t (by have := (List.getElem?_eq_some_iff.1 hi).1; omega) hi]; rfl)
    go_wp2
    go_ret
    exact .yes HBW.out HN.out
theorem pcheck_any (t : Nd) : PckOk t := nd_ind pcheck_of t
end Go.Proofs.YthcldpminmhgkaaDoor
end
