/- Merged for a claim by shake.py: Je4 Je5 -/
import Derived.Test.YthcldpminmhgkaaDoorKrA
import Derived.Test.YthcldpminmhgkaaDoorKr12
import Derived.Test.YthcldpminmhgkaaDoorKr13
import Derived.Test.YthcldpminmhgkaaDoorKr14
set_option maxRecDepth 100000
set_option maxHeartbeats 4000000
set_option linter.unusedSimpArgs false
set_option linter.unusedVariables false
section
namespace Go.Proofs.YthcldpminmhgkaaDoor
open Go.RowKit
theorem own_13 : OwnOk 13 := by
 intro n field text lo hi occ oa ka oc kn kc w F hA hO ht
 obtain ⟨l1, l2, l3⟩ := lo; obtain ⟨r1, r2, r3⟩ := hi
 have a0 : w.cell? ⟨17, 130, none⟩ = some (.bool false) := hA.1 130 _ rfl
 have a1 : w.cell? ⟨17, 131, none⟩ = some (.bool false) := hA.1 131 _ rfl
 have a2 : w.cell? ⟨17, 132, none⟩ = some (.int .i64 0) := hA.1 132 _ rfl
 have a3 : w.cell? ⟨17, 133, none⟩ = some (.int .i64 0) := hA.1 133 _ rfl
 have a4 : w.cell? ⟨17, 134, none⟩ = some (.bool false) := hA.1 134 _ rfl
 have a5 : w.cell? ⟨17, 135, none⟩ = some (.bool false) := hA.1 135 _ rfl
 have a6 : w.cell? ⟨17, 136, none⟩ = some (.int .i64 1) := hA.1 136 _ rfl
 have a7 : w.cell? ⟨17, 137, none⟩ = some (.int .i64 1) := hA.1 137 _ rfl
 have a8 : w.cell? ⟨17, 138, none⟩ = some (.int .i64 4) := hA.1 138 _ rfl
 have a9 : w.cell? ⟨17, 139, none⟩ = some (.string ⟨#[]⟩) := hA.1 139 _ rfl
 have hag := hA.2
 have honb : occ.length ≤ 9223372036854775807 := by have h : occ.length ≤ maxLen := Nat.le_trans hO.2.1 hO.2.2.1; unfold maxLen at h; omega
 have HO := LH hO; have HT := LH ht
 have q1 := fun W => bd_nez l1 l2 l3 W; have q2 := fun W => bd_nez r1 r2 r3 W
 have q3 := fun op x y u W => bd_grd l1 l2 (str l3) op x y u W; have q4 := fun op x y u W => bd_grd r1 r2 (str r3) op x y u W
 generalize hb1 : Bd.nil ⟨l1, l2, l3⟩ = b1 at *; generalize hb2 : Bd.nil ⟨r1, r2, r3⟩ = b2 at *
 have HE1 := LH hb1; have HE2 := LH hb2
 clear hb1 hb2 hA hO ht
 simp only []
 by_cases hf : field = []
 case neg =>
  have hf1 : (str field).toList.isEmpty = false := by rw [str_toList]; cases field; exact absurd rfl hf; rfl
  have hf2 : ¬ (str field).toList = [] := by rw [str_toList]; exact hf
  have HN := LH (show ownN 13 field text n ⟨l1, l2, l3⟩ ⟨r1, r2, r3⟩ occ kn = false from by unfold ownN; simp [hf])
  clear hf
  go_enter Tryd.func35, Tryd.ntmps35
  go_wp2
  go_ret
  exact ⟨ret_bool HN.out.symm, by first | apply below2 | apply below3 | apply below4⟩
 subst hf
 have hse : (str []).toList = [] := str_toList []; have hse2 : (str []).toList.isEmpty = true := by rw [str_toList]; rfl
 by_cases hx : text = []
 case neg =>
  have hx1 : (str text).toList.isEmpty = false := by rw [str_toList]; cases text; exact absurd rfl hx; rfl
  have hx2 : ¬ (str text).toList = [] := by rw [str_toList]; exact hx
  have HN := LH (show ownN 13 [] text n ⟨l1, l2, l3⟩ ⟨r1, r2, r3⟩ occ kn = false from by unfold ownN; simp [hx])
  clear hx
  go_enter Tryd.func35, Tryd.ntmps35
  go_wp2
  go_ret
  exact ⟨ret_bool HN.out.symm, by first | apply below2 | apply below3 | apply below4⟩
 subst hx
 by_cases hn1 : n < 0
 case pos =>
  have hn3 : decide (n < 0) = true := decide_eq_true hn1
  have HN := LH (show ownN 13 [] [] n ⟨l1, l2, l3⟩ ⟨r1, r2, r3⟩ occ kn = false from by have hq : ¬ n = 0 := (by omega); unfold ownN; simp [hq])
  clear hn1
  go_enter Tryd.func35, Tryd.ntmps35
  go_wp2
  go_ret
  exact ⟨ret_bool HN.out.symm, by first | apply below2 | apply below3 | apply below4⟩
 have hn3 : decide (n < 0) = false := decide_eq_false hn1
 by_cases hn2 : 0 < n
 case pos =>
  have hn4 : decide (0 < n) = true := decide_eq_true hn2
  have HN := LH (show ownN 13 [] [] n ⟨l1, l2, l3⟩ ⟨r1, r2, r3⟩ occ kn = false from by have hq : ¬ n = 0 := (by omega); unfold ownN; simp [hq])
  clear hn1 hn2
  go_enter Tryd.func35, Tryd.ntmps35
  go_wp2
  go_ret
  exact ⟨ret_bool HN.out.symm, by first | apply below2 | apply below3 | apply below4⟩
 have hn4 : decide (0 < n) = false := decide_eq_false hn2
 have HNN := LH (show 0 ≤ n ∧ n ≤ 0 from by omega)
 clear hn1 hn2
 cases b1 with
 | false =>
  have HN := LH (show ownN 13 [] [] n ⟨l1, l2, l3⟩ ⟨r1, r2, r3⟩ occ kn = false from by unfold ownN; simp [HE1.out])
  go_enter Tryd.func35, Tryd.ntmps35
  go_wp2
  go_ret
  exact ⟨ret_bool HN.out.symm, by first | apply below2 | apply below3 | apply below4⟩
 | true =>
  cases b2 with
  | false =>
   have HN := LH (show ownN 13 [] [] n ⟨l1, l2, l3⟩ ⟨r1, r2, r3⟩ occ kn = false from by unfold ownN; simp [HE2.out])
   go_enter Tryd.func35, Tryd.ntmps35
   go_wp2
   go_ret
   exact ⟨ret_bool HN.out.symm, by first | apply below2 | apply below3 | apply below4⟩
  | true =>
   by_cases hk1 : kn = 0
   case pos =>
    subst hk1
    have HN := LH (show ownN 13 [] [] n ⟨l1, l2, l3⟩ ⟨r1, r2, r3⟩ occ 0 = false from by unfold ownN; simp)
    go_enter Tryd.func35, Tryd.ntmps35
    go_wp2
    go_ret
    exact ⟨ret_bool HN.out.symm, by first | apply below2 | apply below3 | apply below4⟩
   by_cases hk2 : kn = 1
   case neg =>
    have hk5 : 0 < kn := by omega
    have hk6 : 1 ≤ kn := by omega
    have hk7 : decide (0 < kn) = true := decide_eq_true (by omega)
    have hk8 : decide (kn < 1) = false := decide_eq_false (by omega)
    have hk9 : decide ((kn : Int) < 1) = false := decide_eq_false (by omega)
    have hka : 1 < kn := by omega
    have hkb : decide (1 < kn) = true := decide_eq_true (by omega)
    have hkc : decide ((1 : Int) < (kn : Int)) = true := decide_eq_true (by omega)
    have HN := LH (show ownN 13 [] [] n ⟨l1, l2, l3⟩ ⟨r1, r2, r3⟩ occ kn = false from by unfold ownN; rw [Bool.eq_false_iff]; simp; omega)
    clear hk1 hk2
    go_enter Tryd.func35, Tryd.ntmps35
    go_wp2
    go_ret
    exact ⟨ret_bool HN.out.symm, by first | apply below2 | apply below3 | apply below4⟩
   subst hk2
   by_cases ho1 : 0 < occ.length
   case pos =>
    have ho3 : decide ((0 : Int) < (occ.length : Int)) = true := decide_eq_true (by omega)
    have HN := LH (show ownN 13 [] [] n ⟨l1, l2, l3⟩ ⟨r1, r2, r3⟩ occ 1 = false from by cases occ with | nil => (exact absurd ho1 (Nat.lt_irrefl _)) | cons c t => (unfold ownN; simp))
    go_enter Tryd.func35, Tryd.ntmps35
    go_wp2
    go_ret
    exact ⟨ret_bool HN.out.symm, by first | apply below2 | apply below3 | apply below4⟩
   obtain rfl : occ = [] := List.eq_nil_of_length_eq_zero (by omega)
   have HKN := LH (trivial)
   clear ho1
   have HN := LH (show ownN 13 [] [] n ⟨l1, l2, l3⟩ ⟨r1, r2, r3⟩ [] 1 = true from by
    have h1 := HNN.out; have h2 := HKN.out
    obtain rfl : n = 0 := by omega
    unfold ownN; simp [HE1.out, HE2.out, h2])
   go_enter Tryd.func35, Tryd.ntmps35
   go_wp2
   go_loop [124] (fun iv => iv = .int .i64 0) (fun _ => 0)
   case atStart => exact rfl
   case round =>
    subst hrel
    go_wp2
    go_ret
    exact ⟨ret_bool HN.out.symm, by first | apply below2 | apply below4⟩
theorem own_14 : OwnOk 14 := by
 intro n field text lo hi occ oa ka oc kn kc w F hA hO ht
 obtain ⟨l1, l2, l3⟩ := lo; obtain ⟨r1, r2, r3⟩ := hi
 have a0 : w.cell? ⟨17, 140, none⟩ = some (.bool false) := hA.1 140 _ rfl
 have a1 : w.cell? ⟨17, 141, none⟩ = some (.bool false) := hA.1 141 _ rfl
 have a2 : w.cell? ⟨17, 142, none⟩ = some (.int .i64 0) := hA.1 142 _ rfl
 have a3 : w.cell? ⟨17, 143, none⟩ = some (.int .i64 999999999) := hA.1 143 _ rfl
 have a4 : w.cell? ⟨17, 144, none⟩ = some (.bool false) := hA.1 144 _ rfl
 have a5 : w.cell? ⟨17, 145, none⟩ = some (.bool false) := hA.1 145 _ rfl
 have a6 : w.cell? ⟨17, 146, none⟩ = some (.int .i64 1) := hA.1 146 _ rfl
 have a7 : w.cell? ⟨17, 147, none⟩ = some (.int .i64 1) := hA.1 147 _ rfl
 have a8 : w.cell? ⟨17, 148, none⟩ = some (.int .i64 5) := hA.1 148 _ rfl
 have a9 : w.cell? ⟨17, 149, none⟩ = some (.string ⟨#[94]⟩) := hA.1 149 _ rfl
 have hag := hA.2
 have honb : occ.length ≤ 9223372036854775807 := by have h : occ.length ≤ maxLen := Nat.le_trans hO.2.1 hO.2.2.1; unfold maxLen at h; omega
 have HO := LH hO; have HT := LH ht
 have q1 := fun W => bd_nez l1 l2 l3 W; have q2 := fun W => bd_nez r1 r2 r3 W
 have q3 := fun op x y u W => bd_grd l1 l2 (str l3) op x y u W; have q4 := fun op x y u W => bd_grd r1 r2 (str r3) op x y u W
 generalize hb1 : Bd.nil ⟨l1, l2, l3⟩ = b1 at *; generalize hb2 : Bd.nil ⟨r1, r2, r3⟩ = b2 at *
 have HE1 := LH hb1; have HE2 := LH hb2
 clear hb1 hb2 hA hO ht
 simp only []
 by_cases hf : field = []
 case neg =>
  have hf1 : (str field).toList.isEmpty = false := by rw [str_toList]; cases field; exact absurd rfl hf; rfl
  have hf2 : ¬ (str field).toList = [] := by rw [str_toList]; exact hf
  have HN := LH (show ownN 14 field text n ⟨l1, l2, l3⟩ ⟨r1, r2, r3⟩ occ kn = false from by unfold ownN; simp [hf])
  clear hf
  go_enter Tryd.func35, Tryd.ntmps35
  go_wp2
  go_ret
  exact ⟨ret_bool HN.out.symm, by first | apply below2 | apply below3 | apply below4⟩
 subst hf
 have hse : (str []).toList = [] := str_toList []; have hse2 : (str []).toList.isEmpty = true := by rw [str_toList]; rfl
 by_cases hx : text = []
 case neg =>
  have hx1 : (str text).toList.isEmpty = false := by rw [str_toList]; cases text; exact absurd rfl hx; rfl
  have hx2 : ¬ (str text).toList = [] := by rw [str_toList]; exact hx
  have HN := LH (show ownN 14 [] text n ⟨l1, l2, l3⟩ ⟨r1, r2, r3⟩ occ kn = false from by unfold ownN; simp [hx])
  clear hx
  go_enter Tryd.func35, Tryd.ntmps35
  go_wp2
  go_ret
  exact ⟨ret_bool HN.out.symm, by first | apply below2 | apply below3 | apply below4⟩
 subst hx
 by_cases hn1 : n < 0
 case pos =>
  have hn3 : decide (n < 0) = true := decide_eq_true hn1
  have HN := LH (show ownN 14 [] [] n ⟨l1, l2, l3⟩ ⟨r1, r2, r3⟩ occ kn = false from by have hq : numB n = false := (by unfold numB maxNum; rw [decide_eq_false (show ¬ 0 ≤ n by omega), Bool.false_and]); unfold ownN; simp [hq])
  clear hn1
  go_enter Tryd.func35, Tryd.ntmps35
  go_wp2
  go_ret
  exact ⟨ret_bool HN.out.symm, by first | apply below2 | apply below3 | apply below4⟩
 have hn3 : decide (n < 0) = false := decide_eq_false hn1
 by_cases hn2 : 999999999 < n
 case pos =>
  have hn4 : decide (999999999 < n) = true := decide_eq_true hn2
  have HN := LH (show ownN 14 [] [] n ⟨l1, l2, l3⟩ ⟨r1, r2, r3⟩ occ kn = false from by have hq : numB n = false := (by unfold numB maxNum; rw [decide_eq_false (show ¬ n ≤ 999999999 by omega), Bool.and_false]); unfold ownN; simp [hq])
  clear hn1 hn2
  go_enter Tryd.func35, Tryd.ntmps35
  go_wp2
  go_ret
  exact ⟨ret_bool HN.out.symm, by first | apply below2 | apply below3 | apply below4⟩
 have hn4 : decide (999999999 < n) = false := decide_eq_false hn2
 have HNN := LH (show 0 ≤ n ∧ n ≤ 999999999 from by omega)
 clear hn1 hn2
 cases b1 with
 | false =>
  have HN := LH (show ownN 14 [] [] n ⟨l1, l2, l3⟩ ⟨r1, r2, r3⟩ occ kn = false from by unfold ownN; simp [HE1.out])
  go_enter Tryd.func35, Tryd.ntmps35
  go_wp2
  go_ret
  exact ⟨ret_bool HN.out.symm, by first | apply below2 | apply below3 | apply below4⟩
 | true =>
  cases b2 with
  | false =>
   have HN := LH (show ownN 14 [] [] n ⟨l1, l2, l3⟩ ⟨r1, r2, r3⟩ occ kn = false from by unfold ownN; simp [HE2.out])
   go_enter Tryd.func35, Tryd.ntmps35
   go_wp2
   go_ret
   exact ⟨ret_bool HN.out.symm, by first | apply below2 | apply below3 | apply below4⟩
  | true =>
   by_cases hk1 : kn = 0
   case pos =>
    subst hk1
    have HN := LH (show ownN 14 [] [] n ⟨l1, l2, l3⟩ ⟨r1, r2, r3⟩ occ 0 = false from by unfold ownN; simp)
    go_enter Tryd.func35, Tryd.ntmps35
    go_wp2
    go_ret
    exact ⟨ret_bool HN.out.symm, by first | apply below2 | apply below3 | apply below4⟩
   by_cases hk2 : kn = 1
   case neg =>
    have hk5 : 0 < kn := by omega
    have hk6 : 1 ≤ kn := by omega
    have hk7 : decide (0 < kn) = true := decide_eq_true (by omega)
    have hk8 : decide (kn < 1) = false := decide_eq_false (by omega)
    have hk9 : decide ((kn : Int) < 1) = false := decide_eq_false (by omega)
    have hka : 1 < kn := by omega
    have hkb : decide (1 < kn) = true := decide_eq_true (by omega)
    have hkc : decide ((1 : Int) < (kn : Int)) = true := decide_eq_true (by omega)
    have HN := LH (show ownN 14 [] [] n ⟨l1, l2, l3⟩ ⟨r1, r2, r3⟩ occ kn = false from by unfold ownN; rw [Bool.eq_false_iff]; simp; omega)
    clear hk1 hk2
    go_enter Tryd.func35, Tryd.ntmps35
    go_wp2
    go_ret
    exact ⟨ret_bool HN.out.symm, by first | apply below2 | apply below3 | apply below4⟩
   subst hk2
   by_cases ho1 : 0 < occ.length
   case pos =>
    have ho3 : decide ((0 : Int) < (occ.length : Int)) = true := decide_eq_true (by omega)
    have HN := LH (show ownN 14 [] [] n ⟨l1, l2, l3⟩ ⟨r1, r2, r3⟩ occ 1 = false from by cases occ with | nil => (exact absurd ho1 (Nat.lt_irrefl _)) | cons c t => (unfold ownN; simp))
    go_enter Tryd.func35, Tryd.ntmps35
    go_wp2
    go_ret
    exact ⟨ret_bool HN.out.symm, by first | apply below2 | apply below3 | apply below4⟩
   obtain rfl : occ = [] := List.eq_nil_of_length_eq_zero (by omega)
   have HKN := LH (trivial)
   clear ho1
   have HN := LH (show ownN 14 [] [] n ⟨l1, l2, l3⟩ ⟨r1, r2, r3⟩ [] 1 = true from by
    have h1 := HNN.out; have h2 := HKN.out
    have h4 : numB n = true := numB_iff.2 h1
    unfold ownN; simp [HE1.out, HE2.out, h2, h4])
   go_enter Tryd.func35, Tryd.ntmps35
   go_wp2
   go_loop [124] (fun iv => iv = .int .i64 0) (fun _ => 0)
   case atStart => exact rfl
   case round =>
    subst hrel
    go_wp2
    go_ret
    exact ⟨ret_bool HN.out.symm, by first | apply below2 | apply below4⟩
theorem own_15 : OwnOk 15 := by
 intro n field text lo hi occ oa ka oc kn kc w F hA hO ht
 obtain ⟨l1, l2, l3⟩ := lo; obtain ⟨r1, r2, r3⟩ := hi
 have a0 : w.cell? ⟨17, 150, none⟩ = some (.bool false) := hA.1 150 _ rfl
 have a1 : w.cell? ⟨17, 151, none⟩ = some (.bool false) := hA.1 151 _ rfl
 have a2 : w.cell? ⟨17, 152, none⟩ = some (.int .i64 0) := hA.1 152 _ rfl
 have a3 : w.cell? ⟨17, 153, none⟩ = some (.int .i64 999999999) := hA.1 153 _ rfl
 have a4 : w.cell? ⟨17, 154, none⟩ = some (.bool false) := hA.1 154 _ rfl
 have a5 : w.cell? ⟨17, 155, none⟩ = some (.bool false) := hA.1 155 _ rfl
 have a6 : w.cell? ⟨17, 156, none⟩ = some (.int .i64 1) := hA.1 156 _ rfl
 have a7 : w.cell? ⟨17, 157, none⟩ = some (.int .i64 1) := hA.1 157 _ rfl
 have a8 : w.cell? ⟨17, 158, none⟩ = some (.int .i64 5) := hA.1 158 _ rfl
 have a9 : w.cell? ⟨17, 159, none⟩ = some (.string ⟨#[94, 61]⟩) := hA.1 159 _ rfl
 have hag := hA.2
 have honb : occ.length ≤ 9223372036854775807 := by have h : occ.length ≤ maxLen := Nat.le_trans hO.2.1 hO.2.2.1; unfold maxLen at h; omega
 have HO := LH hO; have HT := LH ht
 have q1 := fun W => bd_nez l1 l2 l3 W; have q2 := fun W => bd_nez r1 r2 r3 W
 have q3 := fun op x y u W => bd_grd l1 l2 (str l3) op x y u W; have q4 := fun op x y u W => bd_grd r1 r2 (str r3) op x y u W
 generalize hb1 : Bd.nil ⟨l1, l2, l3⟩ = b1 at *; generalize hb2 : Bd.nil ⟨r1, r2, r3⟩ = b2 at *
 have HE1 := LH hb1; have HE2 := LH hb2
 clear hb1 hb2 hA hO ht
 simp only []
 by_cases hf : field = []
 case neg =>
  have hf1 : (str field).toList.isEmpty = false := by rw [str_toList]; cases field; exact absurd rfl hf; rfl
  have hf2 : ¬ (str field).toList = [] := by rw [str_toList]; exact hf
  have HN := LH (show ownN 15 field text n ⟨l1, l2, l3⟩ ⟨r1, r2, r3⟩ occ kn = false from by unfold ownN; simp [hf])
  clear hf
  go_enter Tryd.func35, Tryd.ntmps35
  go_wp2
  go_ret
  exact ⟨ret_bool HN.out.symm, by first | apply below2 | apply below3 | apply below4⟩
 subst hf
 have hse : (str []).toList = [] := str_toList []; have hse2 : (str []).toList.isEmpty = true := by rw [str_toList]; rfl
 by_cases hx : text = []
 case neg =>
  have hx1 : (str text).toList.isEmpty = false := by rw [str_toList]; cases text; exact absurd rfl hx; rfl
  have hx2 : ¬ (str text).toList = [] := by rw [str_toList]; exact hx
  have HN := LH (show ownN 15 [] text n ⟨l1, l2, l3⟩ ⟨r1, r2, r3⟩ occ kn = false from by unfold ownN; simp [hx])
  clear hx
  go_enter Tryd.func35, Tryd.ntmps35
  go_wp2
  go_ret
  exact ⟨ret_bool HN.out.symm, by first | apply below2 | apply below3 | apply below4⟩
 subst hx
 by_cases hn1 : n < 0
 case pos =>
  have hn3 : decide (n < 0) = true := decide_eq_true hn1
  have HN := LH (show ownN 15 [] [] n ⟨l1, l2, l3⟩ ⟨r1, r2, r3⟩ occ kn = false from by have hq : numB n = false := (by unfold numB maxNum; rw [decide_eq_false (show ¬ 0 ≤ n by omega), Bool.false_and]); unfold ownN; simp [hq])
  clear hn1
  go_enter Tryd.func35, Tryd.ntmps35
  go_wp2
  go_ret
  exact ⟨ret_bool HN.out.symm, by first | apply below2 | apply below3 | apply below4⟩
 have hn3 : decide (n < 0) = false := decide_eq_false hn1
 by_cases hn2 : 999999999 < n
 case pos =>
  have hn4 : decide (999999999 < n) = true := decide_eq_true hn2
  have HN := LH (show ownN 15 [] [] n ⟨l1, l2, l3⟩ ⟨r1, r2, r3⟩ occ kn = false from by have hq : numB n = false := (by unfold numB maxNum; rw [decide_eq_false (show ¬ n ≤ 999999999 by omega), Bool.and_false]); unfold ownN; simp [hq])
  clear hn1 hn2
  go_enter Tryd.func35, Tryd.ntmps35
  go_wp2
  go_ret
  exact ⟨ret_bool HN.out.symm, by first | apply below2 | apply below3 | apply below4⟩
 have hn4 : decide (999999999 < n) = false := decide_eq_false hn2
 have HNN := LH (show 0 ≤ n ∧ n ≤ 999999999 from by omega)
 clear hn1 hn2
 cases b1 with
 | false =>
  have HN := LH (show ownN 15 [] [] n ⟨l1, l2, l3⟩ ⟨r1, r2, r3⟩ occ kn = false from by unfold ownN; simp [HE1.out])
  go_enter Tryd.func35, Tryd.ntmps35
  go_wp2
  go_ret
  exact ⟨ret_bool HN.out.symm, by first | apply below2 | apply below3 | apply below4⟩
 | true =>
  cases b2 with
  | false =>
   have HN := LH (show ownN 15 [] [] n ⟨l1, l2, l3⟩ ⟨r1, r2, r3⟩ occ kn = false from by unfold ownN; simp [HE2.out])
   go_enter Tryd.func35, Tryd.ntmps35
   go_wp2
   go_ret
   exact ⟨ret_bool HN.out.symm, by first | apply below2 | apply below3 | apply below4⟩
  | true =>
   by_cases hk1 : kn = 0
   case pos =>
    subst hk1
    have HN := LH (show ownN 15 [] [] n ⟨l1, l2, l3⟩ ⟨r1, r2, r3⟩ occ 0 = false from by unfold ownN; simp)
    go_enter Tryd.func35, Tryd.ntmps35
    go_wp2
    go_ret
    exact ⟨ret_bool HN.out.symm, by first | apply below2 | apply below3 | apply below4⟩
   by_cases hk2 : kn = 1
   case neg =>
    have hk5 : 0 < kn := by omega
    have hk6 : 1 ≤ kn := by omega
    have hk7 : decide (0 < kn) = true := decide_eq_true (by omega)
    have hk8 : decide (kn < 1) = false := decide_eq_false (by omega)
    have hk9 : decide ((kn : Int) < 1) = false := decide_eq_false (by omega)
    have hka : 1 < kn := by omega
    have hkb : decide (1 < kn) = true := decide_eq_true (by omega)
    have hkc : decide ((1 : Int) < (kn : Int)) = true := decide_eq_true (by omega)
    have HN := LH (show ownN 15 [] [] n ⟨l1, l2, l3⟩ ⟨r1, r2, r3⟩ occ kn = false from by unfold ownN; rw [Bool.eq_false_iff]; simp; omega)
    clear hk1 hk2
    go_enter Tryd.func35, Tryd.ntmps35
    go_wp2
    go_ret
    exact ⟨ret_bool HN.out.symm, by first | apply below2 | apply below3 | apply below4⟩
   subst hk2
   by_cases ho1 : 0 < occ.length
   case pos =>
    have ho3 : decide ((0 : Int) < (occ.length : Int)) = true := decide_eq_true (by omega)
    have HN := LH (show ownN 15 [] [] n ⟨l1, l2, l3⟩ ⟨r1, r2, r3⟩ occ 1 = false from by cases occ with | nil => (exact absurd ho1 (Nat.lt_irrefl _)) | cons c t => (unfold ownN; simp))
    go_enter Tryd.func35, Tryd.ntmps35
    go_wp2
    go_ret
    exact ⟨ret_bool HN.out.symm, by first | apply below2 | apply below3 | apply below4⟩
   obtain rfl : occ = [] := List.eq_nil_of_length_eq_zero (by omega)
   have HKN := LH (trivial)
   clear ho1
   have HN := LH (show ownN 15 [] [] n ⟨l1, l2, l3⟩ ⟨r1, r2, r3⟩ [] 1 = true from by
    have h1 := HNN.out; have h2 := HKN.out
    have h4 : numB n = true := numB_iff.2 h1
    unfold ownN; simp [HE1.out, HE2.out, h2, h4])
   go_enter Tryd.func35, Tryd.ntmps35
   go_wp2
   go_loop [124] (fun iv => iv = .int .i64 0) (fun _ => 0)
   case atStart => exact rfl
   case round =>
    subst hrel
    go_wp2
    go_ret
    exact ⟨ret_bool HN.out.symm, by first | apply below2 | apply below4⟩
theorem own_any (kind : Int) : OwnOk kind := by
 by_cases h : kind < 1 ∨ 15 < kind
 ·exact own_out h
 ·have h2 : kind = 1 ∨ kind = 2 ∨ kind = 3 ∨ kind = 4 ∨ kind = 5 ∨ kind = 6 ∨ kind = 7 ∨ kind = 8 ∨ kind = 9 ∨ kind = 10 ∨ kind = 11 ∨ kind = 12 ∨ kind = 13 ∨ kind = 14 ∨ kind = 15 := by omega
  rcases h2 with rfl | rfl | rfl | rfl | rfl | rfl | rfl | rfl | rfl | rfl | rfl | rfl | rfl | rfl | rfl
  ·exact own_1
  ·exact own_2
  ·exact own_3
  ·exact own_4
  ·exact own_5
  ·exact own_6
  ·exact own_7
  ·exact own_8
  ·exact own_9
  ·exact own_10
  ·exact own_11
  ·exact own_12
  ·exact own_13
  ·exact own_14
  ·exact own_15
end Go.Proofs.YthcldpminmhgkaaDoor
end
