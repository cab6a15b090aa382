/- Merged for a claim by shake.py: Je2 -/
import Derived.Test.YthcldpminmhgkaaDoorKrA
import Derived.Test.YthcldpminmhgkaaDoorKr12
set_option maxRecDepth 100000
set_option maxHeartbeats 4000000
set_option linter.unusedSimpArgs false
set_option linter.unusedVariables false
section
namespace Go.Proofs.YthcldpminmhgkaaDoor
open Go.RowKit
theorem own_5 : OwnOk 5 := by
 intro n field text lo hi occ oa ka oc kn kc w F hA hO ht
 obtain ⟨l1, l2, l3⟩ := lo; obtain ⟨r1, r2, r3⟩ := hi
 have a0 : w.cell? ⟨17, 50, none⟩ = some (.bool true) := hA.1 50 _ rfl
 have a1 : w.cell? ⟨17, 51, none⟩ = some (.bool true) := hA.1 51 _ rfl
 have a2 : w.cell? ⟨17, 52, none⟩ = some (.int .i64 1) := hA.1 52 _ rfl
 have a3 : w.cell? ⟨17, 53, none⟩ = some (.int .i64 2) := hA.1 53 _ rfl
 have a4 : w.cell? ⟨17, 54, none⟩ = some (.bool false) := hA.1 54 _ rfl
 have a5 : w.cell? ⟨17, 55, none⟩ = some (.bool false) := hA.1 55 _ rfl
 have a6 : w.cell? ⟨17, 56, none⟩ = some (.int .i64 0) := hA.1 56 _ rfl
 have a7 : w.cell? ⟨17, 57, none⟩ = some (.int .i64 0) := hA.1 57 _ rfl
 have a8 : w.cell? ⟨17, 58, none⟩ = some (.int .i64 6) := hA.1 58 _ rfl
 have a9 : w.cell? ⟨17, 59, none⟩ = some (.string ⟨#[]⟩) := hA.1 59 _ rfl
 have hag := hA.2
 have honb : occ.length ≤ 9223372036854775807 := by have h : occ.length ≤ maxLen := Nat.le_trans hO.2.1 hO.2.2.1; unfold maxLen at h; omega
 have HO := LH hO; have HT := LH ht
 have q1 := fun W => bd_nez l1 l2 l3 W; have q2 := fun W => bd_nez r1 r2 r3 W
 have q3 := fun op x y u W => bd_grd l1 l2 (str l3) op x y u W; have q4 := fun op x y u W => bd_grd r1 r2 (str r3) op x y u W
 generalize hb1 : Bd.nil ⟨l1, l2, l3⟩ = b1 at *; generalize hb2 : Bd.nil ⟨r1, r2, r3⟩ = b2 at *
 have HE1 := LH hb1; have HE2 := LH hb2
 clear hb1 hb2 hA hO ht
 simp only []
 by_cases hn1 : n < 1
 case pos =>
  have hn3 : decide (n < 1) = true := decide_eq_true hn1
  have HN := LH (show ownN 5 field text n ⟨l1, l2, l3⟩ ⟨r1, r2, r3⟩ occ kn = false from by have hq : ¬ n = 1 := (by omega); have hq2 : ¬ n = 2 := (by omega); unfold ownN; simp [hq, hq2])
  clear hn1
  go_enter Tryd.func35, Tryd.ntmps35
  go_wp2
  go_ret
  exact ⟨ret_bool HN.out.symm, by first | apply below2 | apply below3 | apply below4⟩
 have hn3 : decide (n < 1) = false := decide_eq_false hn1
 by_cases hn2 : 2 < n
 case pos =>
  have hn4 : decide (2 < n) = true := decide_eq_true hn2
  have HN := LH (show ownN 5 field text n ⟨l1, l2, l3⟩ ⟨r1, r2, r3⟩ occ kn = false from by have hq : ¬ n = 1 := (by omega); have hq2 : ¬ n = 2 := (by omega); unfold ownN; simp [hq, hq2])
  clear hn1 hn2
  go_enter Tryd.func35, Tryd.ntmps35
  go_wp2
  go_ret
  exact ⟨ret_bool HN.out.symm, by first | apply below2 | apply below3 | apply below4⟩
 have hn4 : decide (2 < n) = false := decide_eq_false hn2
 have HNN := LH (show 1 ≤ n ∧ n ≤ 2 from by omega)
 clear hn1 hn2
 cases b1 with
 | false =>
  have HN := LH (show ownN 5 field text n ⟨l1, l2, l3⟩ ⟨r1, r2, r3⟩ occ kn = false from by unfold ownN; simp [HE1.out])
  go_enter Tryd.func35, Tryd.ntmps35
  go_wp2
  go_ret
  exact ⟨ret_bool HN.out.symm, by first | apply below2 | apply below3 | apply below4⟩
 | true =>
  cases b2 with
  | false =>
   have HN := LH (show ownN 5 field text n ⟨l1, l2, l3⟩ ⟨r1, r2, r3⟩ occ kn = false from by unfold ownN; simp [HE2.out])
   go_enter Tryd.func35, Tryd.ntmps35
   go_wp2
   go_ret
   exact ⟨ret_bool HN.out.symm, by first | apply below2 | apply below3 | apply below4⟩
  | true =>
   by_cases hk1 : kn = 0
   case neg =>
    have hk5 : 0 < kn := by omega
    have hk6 : 1 ≤ kn := by omega
    have hk7 : decide (0 < kn) = true := decide_eq_true (by omega)
    have hk8 : decide (kn < 1) = false := decide_eq_false (by omega)
    have hk9 : decide ((kn : Int) < 1) = false := decide_eq_false (by omega)
    have HN := LH (show ownN 5 field text n ⟨l1, l2, l3⟩ ⟨r1, r2, r3⟩ occ kn = false from by unfold ownN; rw [Bool.eq_false_iff]; simp; omega)
    clear hk1
    go_enter Tryd.func35, Tryd.ntmps35
    go_wp2
    go_ret
    exact ⟨ret_bool HN.out.symm, by first | apply below2 | apply below3 | apply below4⟩
   subst hk1
   by_cases ho1 : 0 < occ.length
   case pos =>
    have ho3 : decide ((0 : Int) < (occ.length : Int)) = true := decide_eq_true (by omega)
    have HN := LH (show ownN 5 field text n ⟨l1, l2, l3⟩ ⟨r1, r2, r3⟩ occ 0 = false from by cases occ with | nil => (exact absurd ho1 (Nat.lt_irrefl _)) | cons c t => (unfold ownN; simp))
    go_enter Tryd.func35, Tryd.ntmps35
    go_wp2
    go_ret
    exact ⟨ret_bool HN.out.symm, by first | apply below2 | apply below3 | apply below4⟩
   obtain rfl : occ = [] := List.eq_nil_of_length_eq_zero (by omega)
   have HKN := LH (trivial)
   clear ho1
   by_cases hx : text = []
   case pos =>
    subst hx
    have hse : (str []).toList = [] := str_toList []; have hse2 : (str []).toList.isEmpty = true := by rw [str_toList]; rfl
    have HN := LH (show ownN 5 field [] n ⟨l1, l2, l3⟩ ⟨r1, r2, r3⟩ [] 0 = false from by
     have h1 := HNN.out; have h2 := HKN.out
     rcases (show n = 1 ∨ n = 2 from by omega) with rfl | rfl <;> (unfold ownN; simp [HE1.out, HE2.out, h2]))
    go_enter Tryd.func35, Tryd.ntmps35
    go_wp2
    go_loop [124] (fun iv => iv = .int .i64 0) (fun _ => 0)
    case atStart => exact rfl
    case round =>
     subst hrel
     go_wp2
     go_ret
     exact ⟨ret_bool HN.out.symm, by first | apply below2 | apply below4⟩
   have hx1 : (str text).toList.isEmpty = false := by rw [str_toList]; cases text; exact absurd rfl hx; rfl
   have hx2 : ¬ (str text).toList = [] := by rw [str_toList]; exact hx
   have HN := LH (show ownN 5 field text n ⟨l1, l2, l3⟩ ⟨r1, r2, r3⟩ [] 0 = true from by
    have h1 := HNN.out; have h2 := HKN.out
    rcases (show n = 1 ∨ n = 2 from by omega) with rfl | rfl <;> (unfold ownN; simp [HE1.out, HE2.out, h2, hx]))
   clear hx
   go_enter Tryd.func35, Tryd.ntmps35
   go_wp2
   go_loop [124] (fun iv => iv = .int .i64 0) (fun _ => 0)
   case atStart => exact rfl
   case round =>
    subst hrel
    go_wp2
    go_ret
    exact ⟨ret_bool HN.out.symm, by first | apply below2 | apply below4⟩
theorem own_6 : OwnOk 6 := by
 intro n field text lo hi occ oa ka oc kn kc w F hA hO ht
 obtain ⟨l1, l2, l3⟩ := lo; obtain ⟨r1, r2, r3⟩ := hi
 have a0 : w.cell? ⟨17, 60, none⟩ = some (.bool true) := hA.1 60 _ rfl
 have a1 : w.cell? ⟨17, 61, none⟩ = some (.bool false) := hA.1 61 _ rfl
 have a2 : w.cell? ⟨17, 62, none⟩ = some (.int .i64 0) := hA.1 62 _ rfl
 have a3 : w.cell? ⟨17, 63, none⟩ = some (.int .i64 0) := hA.1 63 _ rfl
 have a4 : w.cell? ⟨17, 64, none⟩ = some (.bool true) := hA.1 64 _ rfl
 have a5 : w.cell? ⟨17, 65, none⟩ = some (.bool false) := hA.1 65 _ rfl
 have a6 : w.cell? ⟨17, 66, none⟩ = some (.int .i64 0) := hA.1 66 _ rfl
 have a7 : w.cell? ⟨17, 67, none⟩ = some (.int .i64 0) := hA.1 67 _ rfl
 have a8 : w.cell? ⟨17, 68, none⟩ = some (.int .i64 6) := hA.1 68 _ rfl
 have a9 : w.cell? ⟨17, 69, none⟩ = some (.string ⟨#[]⟩) := hA.1 69 _ rfl
 have hag := hA.2
 have honb : occ.length ≤ 9223372036854775807 := by have h : occ.length ≤ maxLen := Nat.le_trans hO.2.1 hO.2.2.1; unfold maxLen at h; omega
 have HO := LH hO; have HT := LH ht
 have HB1 := LH (fun (W : World) => bound_any ⟨l1, l2, l3⟩ W); have HB2 := LH (fun (W : World) => bound_any ⟨r1, r2, r3⟩ W)
 generalize hb1 : Bd.ok ⟨l1, l2, l3⟩ = b1 at *; generalize hb2 : Bd.ok ⟨r1, r2, r3⟩ = b2 at *
 have HE1 := LH hb1; have HE2 := LH hb2
 clear hb1 hb2 hA hO ht
 simp only []
 by_cases hx : text = []
 case neg =>
  have hx1 : (str text).toList.isEmpty = false := by rw [str_toList]; cases text; exact absurd rfl hx; rfl
  have hx2 : ¬ (str text).toList = [] := by rw [str_toList]; exact hx
  have HN := LH (show ownN 6 field text n ⟨l1, l2, l3⟩ ⟨r1, r2, r3⟩ occ kn = false from by unfold ownN; simp [hx])
  clear hx
  go_enter Tryd.func35, Tryd.ntmps35
  go_wp2
  go_ret
  exact ⟨ret_bool HN.out.symm, by first | apply below2 | apply below3 | apply below4⟩
 subst hx
 have hse : (str []).toList = [] := str_toList []; have hse2 : (str []).toList.isEmpty = true := by rw [str_toList]; rfl
 by_cases hn1 : n < 0
 case pos =>
  have hn3 : decide (n < 0) = true := decide_eq_true hn1
  have HN := LH (show ownN 6 field [] n ⟨l1, l2, l3⟩ ⟨r1, r2, r3⟩ occ kn = false from by have hq : ¬ n = 0 := (by omega); unfold ownN; simp [hq])
  clear hn1
  go_enter Tryd.func35, Tryd.ntmps35
  go_wp2
  go_ret
  exact ⟨ret_bool HN.out.symm, by first | apply below2 | apply below3 | apply below4⟩
 have hn3 : decide (n < 0) = false := decide_eq_false hn1
 by_cases hn2 : 0 < n
 case pos =>
  have hn4 : decide (0 < n) = true := decide_eq_true hn2
  have HN := LH (show ownN 6 field [] n ⟨l1, l2, l3⟩ ⟨r1, r2, r3⟩ occ kn = false from by have hq : ¬ n = 0 := (by omega); unfold ownN; simp [hq])
  clear hn1 hn2
  go_enter Tryd.func35, Tryd.ntmps35
  go_wp2
  go_ret
  exact ⟨ret_bool HN.out.symm, by first | apply below2 | apply below3 | apply below4⟩
 have hn4 : decide (0 < n) = false := decide_eq_false hn2
 have HNN := LH (show 0 ≤ n ∧ n ≤ 0 from by omega)
 clear hn1 hn2
 have HBX1 := HB1
 cases b1 with
 | false =>
  have HN := LH (show ownN 6 field [] n ⟨l1, l2, l3⟩ ⟨r1, r2, r3⟩ occ kn = false from by unfold ownN; simp [HE1.out])
  go_enter Tryd.func35, Tryd.ntmps35
  go_wp2_with (first | ((with_reducible refine (HB1.out _).mono ?_); rintro e w2 ⟨rfl, rfl⟩) | ((with_reducible refine (HB2.out _).mono ?_); rintro e w2 ⟨rfl, rfl⟩))
  go_ret
  exact ⟨ret_bool HN.out.symm, by first | apply below2 | apply below3 | apply below4⟩
 | true =>
  cases b2 with
  | false =>
   have HN := LH (show ownN 6 field [] n ⟨l1, l2, l3⟩ ⟨r1, r2, r3⟩ occ kn = false from by unfold ownN; simp [HE2.out])
   go_enter Tryd.func35, Tryd.ntmps35
   go_wp2_with (first | ((with_reducible refine (HB1.out _).mono ?_); rintro e w2 ⟨rfl, rfl⟩) | ((with_reducible refine (HB2.out _).mono ?_); rintro e w2 ⟨rfl, rfl⟩))
   go_ret
   exact ⟨ret_bool HN.out.symm, by first | apply below2 | apply below3 | apply below4⟩
  | true =>
   by_cases hk1 : kn = 0
   case neg =>
    have hk5 : 0 < kn := by omega
    have hk6 : 1 ≤ kn := by omega
    have hk7 : decide (0 < kn) = true := decide_eq_true (by omega)
    have hk8 : decide (kn < 1) = false := decide_eq_false (by omega)
    have hk9 : decide ((kn : Int) < 1) = false := decide_eq_false (by omega)
    have HN := LH (show ownN 6 field [] n ⟨l1, l2, l3⟩ ⟨r1, r2, r3⟩ occ kn = false from by unfold ownN; rw [Bool.eq_false_iff]; simp; omega)
    clear hk1
    go_enter Tryd.func35, Tryd.ntmps35
    go_wp2_with (first | ((with_reducible refine (HB1.out _).mono ?_); rintro e w2 ⟨rfl, rfl⟩) | ((with_reducible refine (HB2.out _).mono ?_); rintro e w2 ⟨rfl, rfl⟩))
    go_ret
    exact ⟨ret_bool HN.out.symm, by first | apply below2 | apply below3 | apply below4⟩
   subst hk1
   by_cases ho1 : 0 < occ.length
   case pos =>
    have ho3 : decide ((0 : Int) < (occ.length : Int)) = true := decide_eq_true (by omega)
    have HN := LH (show ownN 6 field [] n ⟨l1, l2, l3⟩ ⟨r1, r2, r3⟩ occ 0 = false from by cases occ with | nil => (exact absurd ho1 (Nat.lt_irrefl _)) | cons c t => (unfold ownN; simp))
    go_enter Tryd.func35, Tryd.ntmps35
    go_wp2_with (first | ((with_reducible refine (HB1.out _).mono ?_); rintro e w2 ⟨rfl, rfl⟩) | ((with_reducible refine (HB2.out _).mono ?_); rintro e w2 ⟨rfl, rfl⟩))
    go_ret
    exact ⟨ret_bool HN.out.symm, by first | apply below2 | apply below3 | apply below4⟩
   obtain rfl : occ = [] := List.eq_nil_of_length_eq_zero (by omega)
   have HKN := LH (trivial)
   clear ho1
   have HN := LH (show ownN 6 field [] n ⟨l1, l2, l3⟩ ⟨r1, r2, r3⟩ [] 0 = true from by
    have h1 := HNN.out; have h2 := HKN.out
    obtain rfl : n = 0 := by omega
    unfold ownN; simp [HE1.out, HE2.out, h2])
   go_enter Tryd.func35, Tryd.ntmps35
   go_wp2_with (first | ((with_reducible refine (HB1.out _).mono ?_); rintro e w2 ⟨rfl, rfl⟩) | ((with_reducible refine (HB2.out _).mono ?_); rintro e w2 ⟨rfl, rfl⟩))
   go_loop [124] (fun iv => iv = .int .i64 0) (fun _ => 0)
   case atStart => exact rfl
   case round =>
    subst hrel
    go_wp2
    go_ret
    exact ⟨ret_bool HN.out.symm, by first | apply below2 | apply below4⟩
theorem own_7 : OwnOk 7 := by
 intro n field text lo hi occ oa ka oc kn kc w F hA hO ht
 obtain ⟨l1, l2, l3⟩ := lo; obtain ⟨r1, r2, r3⟩ := hi
 have a0 : w.cell? ⟨17, 70, none⟩ = some (.bool true) := hA.1 70 _ rfl
 have a1 : w.cell? ⟨17, 71, none⟩ = some (.bool false) := hA.1 71 _ rfl
 have a2 : w.cell? ⟨17, 72, none⟩ = some (.int .i64 0) := hA.1 72 _ rfl
 have a3 : w.cell? ⟨17, 73, none⟩ = some (.int .i64 0) := hA.1 73 _ rfl
 have a4 : w.cell? ⟨17, 74, none⟩ = some (.bool false) := hA.1 74 _ rfl
 have a5 : w.cell? ⟨17, 75, none⟩ = some (.bool false) := hA.1 75 _ rfl
 have a6 : w.cell? ⟨17, 76, none⟩ = some (.int .i64 0) := hA.1 76 _ rfl
 have a7 : w.cell? ⟨17, 77, none⟩ = some (.int .i64 0) := hA.1 77 _ rfl
 have a8 : w.cell? ⟨17, 78, none⟩ = some (.int .i64 6) := hA.1 78 _ rfl
 have a9 : w.cell? ⟨17, 79, none⟩ = some (.string ⟨#[]⟩) := hA.1 79 _ rfl
 have hag := hA.2
 have honb : occ.length ≤ 9223372036854775807 := by have h : occ.length ≤ maxLen := Nat.le_trans hO.2.1 hO.2.2.1; unfold maxLen at h; omega
 have HO := LH hO; have HT := LH ht
 have q1 := fun W => bd_nez l1 l2 l3 W; have q2 := fun W => bd_nez r1 r2 r3 W
 have q3 := fun op x y u W => bd_grd l1 l2 (str l3) op x y u W; have q4 := fun op x y u W => bd_grd r1 r2 (str r3) op x y u W
 generalize hb1 : Bd.nil ⟨l1, l2, l3⟩ = b1 at *; generalize hb2 : Bd.nil ⟨r1, r2, r3⟩ = b2 at *
 have HE1 := LH hb1; have HE2 := LH hb2
 clear hb1 hb2 hA hO ht
 simp only []
 by_cases hx : text = []
 case neg =>
  have hx1 : (str text).toList.isEmpty = false := by rw [str_toList]; cases text; exact absurd rfl hx; rfl
  have hx2 : ¬ (str text).toList = [] := by rw [str_toList]; exact hx
  have HN := LH (show ownN 7 field text n ⟨l1, l2, l3⟩ ⟨r1, r2, r3⟩ occ kn = false from by unfold ownN; simp [hx])
  clear hx
  go_enter Tryd.func35, Tryd.ntmps35
  go_wp2
  go_ret
  exact ⟨ret_bool HN.out.symm, by first | apply below2 | apply below3 | apply below4⟩
 subst hx
 have hse : (str []).toList = [] := str_toList []; have hse2 : (str []).toList.isEmpty = true := by rw [str_toList]; rfl
 by_cases hn1 : n < 0
 case pos =>
  have hn3 : decide (n < 0) = true := decide_eq_true hn1
  have HN := LH (show ownN 7 field [] n ⟨l1, l2, l3⟩ ⟨r1, r2, r3⟩ occ kn = false from by have hq : ¬ n = 0 := (by omega); unfold ownN; simp [hq])
  clear hn1
  go_enter Tryd.func35, Tryd.ntmps35
  go_wp2
  go_ret
  exact ⟨ret_bool HN.out.symm, by first | apply below2 | apply below3 | apply below4⟩
 have hn3 : decide (n < 0) = false := decide_eq_false hn1
 by_cases hn2 : 0 < n
 case pos =>
  have hn4 : decide (0 < n) = true := decide_eq_true hn2
  have HN := LH (show ownN 7 field [] n ⟨l1, l2, l3⟩ ⟨r1, r2, r3⟩ occ kn = false from by have hq : ¬ n = 0 := (by omega); unfold ownN; simp [hq])
  clear hn1 hn2
  go_enter Tryd.func35, Tryd.ntmps35
  go_wp2
  go_ret
  exact ⟨ret_bool HN.out.symm, by first | apply below2 | apply below3 | apply below4⟩
 have hn4 : decide (0 < n) = false := decide_eq_false hn2
 have HNN := LH (show 0 ≤ n ∧ n ≤ 0 from by omega)
 clear hn1 hn2
 cases b1 with
 | false =>
  have HN := LH (show ownN 7 field [] n ⟨l1, l2, l3⟩ ⟨r1, r2, r3⟩ occ kn = false from by unfold ownN; simp [HE1.out])
  go_enter Tryd.func35, Tryd.ntmps35
  go_wp2
  go_ret
  exact ⟨ret_bool HN.out.symm, by first | apply below2 | apply below3 | apply below4⟩
 | true =>
  cases b2 with
  | false =>
   have HN := LH (show ownN 7 field [] n ⟨l1, l2, l3⟩ ⟨r1, r2, r3⟩ occ kn = false from by unfold ownN; simp [HE2.out])
   go_enter Tryd.func35, Tryd.ntmps35
   go_wp2
   go_ret
   exact ⟨ret_bool HN.out.symm, by first | apply below2 | apply below3 | apply below4⟩
  | true =>
   by_cases hk1 : kn = 0
   case neg =>
    have hk5 : 0 < kn := by omega
    have hk6 : 1 ≤ kn := by omega
    have hk7 : decide (0 < kn) = true := decide_eq_true (by omega)
    have hk8 : decide (kn < 1) = false := decide_eq_false (by omega)
    have hk9 : decide ((kn : Int) < 1) = false := decide_eq_false (by omega)
    have HN := LH (show ownN 7 field [] n ⟨l1, l2, l3⟩ ⟨r1, r2, r3⟩ occ kn = false from by unfold ownN; rw [Bool.eq_false_iff]; simp; omega)
    clear hk1
    go_enter Tryd.func35, Tryd.ntmps35
    go_wp2
    go_ret
    exact ⟨ret_bool HN.out.symm, by first | apply below2 | apply below3 | apply below4⟩
   subst hk1
   by_cases ho1 : 0 < occ.length
   case pos =>
    have ho3 : decide ((0 : Int) < (occ.length : Int)) = true := decide_eq_true (by omega)
    have HN := LH (show ownN 7 field [] n ⟨l1, l2, l3⟩ ⟨r1, r2, r3⟩ occ 0 = false from by cases occ with | nil => (exact absurd ho1 (Nat.lt_irrefl _)) | cons c t => (unfold ownN; simp))
    go_enter Tryd.func35, Tryd.ntmps35
    go_wp2
    go_ret
    exact ⟨ret_bool HN.out.symm, by first | apply below2 | apply below3 | apply below4⟩
   obtain rfl : occ = [] := List.eq_nil_of_length_eq_zero (by omega)
   have HKN := LH (trivial)
   clear ho1
   have HN := LH (show ownN 7 field [] n ⟨l1, l2, l3⟩ ⟨r1, r2, r3⟩ [] 0 = true from by
    have h1 := HNN.out; have h2 := HKN.out
    obtain rfl : n = 0 := by omega
    unfold ownN; simp [HE1.out, HE2.out, h2])
   go_enter Tryd.func35, Tryd.ntmps35
   go_wp2
   go_loop [124] (fun iv => iv = .int .i64 0) (fun _ => 0)
   case atStart => exact rfl
   case round =>
    subst hrel
    go_wp2
    go_ret
    exact ⟨ret_bool HN.out.symm, by first | apply below2 | apply below4⟩
theorem own_8 : OwnOk 8 := by
 intro n field text lo hi occ oa ka oc kn kc w F hA hO ht
 obtain ⟨l1, l2, l3⟩ := lo; obtain ⟨r1, r2, r3⟩ := hi
 have a0 : w.cell? ⟨17, 80, none⟩ = some (.bool false) := hA.1 80 _ rfl
 have a1 : w.cell? ⟨17, 81, none⟩ = some (.bool false) := hA.1 81 _ rfl
 have a2 : w.cell? ⟨17, 82, none⟩ = some (.int .i64 0) := hA.1 82 _ rfl
 have a3 : w.cell? ⟨17, 83, none⟩ = some (.int .i64 0) := hA.1 83 _ rfl
 have a4 : w.cell? ⟨17, 84, none⟩ = some (.bool false) := hA.1 84 _ rfl
 have a5 : w.cell? ⟨17, 85, none⟩ = some (.bool false) := hA.1 85 _ rfl
 have a6 : w.cell? ⟨17, 86, none⟩ = some (.int .i64 0) := hA.1 86 _ rfl
 have a7 : w.cell? ⟨17, 87, none⟩ = some (.int .i64 0) := hA.1 87 _ rfl
 have a8 : w.cell? ⟨17, 88, none⟩ = some (.int .i64 6) := hA.1 88 _ rfl
 have a9 : w.cell? ⟨17, 89, none⟩ = some (.string ⟨#[]⟩) := hA.1 89 _ rfl
 have hag := hA.2
 have honb : occ.length ≤ 9223372036854775807 := by have h : occ.length ≤ maxLen := Nat.le_trans hO.2.1 hO.2.2.1; unfold maxLen at h; omega
 have HO := LH hO; have HT := LH ht
 have q1 := fun W => bd_nez l1 l2 l3 W; have q2 := fun W => bd_nez r1 r2 r3 W
 have q3 := fun op x y u W => bd_grd l1 l2 (str l3) op x y u W; have q4 := fun op x y u W => bd_grd r1 r2 (str r3) op x y u W
 generalize hb1 : Bd.nil ⟨l1, l2, l3⟩ = b1 at *; generalize hb2 : Bd.nil ⟨r1, r2, r3⟩ = b2 at *
 have HE1 := LH hb1; have HE2 := LH hb2
 clear hb1 hb2 hA hO ht
 simp only []
 by_cases hf : field = []
 case neg =>
  have hf1 : (str field).toList.isEmpty = false := by rw [str_toList]; cases field; exact absurd rfl hf; rfl
  have hf2 : ¬ (str field).toList = [] := by rw [str_toList]; exact hf
  have HN := LH (show ownN 8 field text n ⟨l1, l2, l3⟩ ⟨r1, r2, r3⟩ occ kn = false from by unfold ownN; simp [hf])
  clear hf
  go_enter Tryd.func35, Tryd.ntmps35
  go_wp2
  go_ret
  exact ⟨ret_bool HN.out.symm, by first | apply below2 | apply below3 | apply below4⟩
 subst hf
 have hse : (str []).toList = [] := str_toList []; have hse2 : (str []).toList.isEmpty = true := by rw [str_toList]; rfl
 by_cases hx : text = []
 case neg =>
  have hx1 : (str text).toList.isEmpty = false := by rw [str_toList]; cases text; exact absurd rfl hx; rfl
  have hx2 : ¬ (str text).toList = [] := by rw [str_toList]; exact hx
  have HN := LH (show ownN 8 [] text n ⟨l1, l2, l3⟩ ⟨r1, r2, r3⟩ occ kn = false from by unfold ownN; simp [hx])
  clear hx
  go_enter Tryd.func35, Tryd.ntmps35
  go_wp2
  go_ret
  exact ⟨ret_bool HN.out.symm, by first | apply below2 | apply below3 | apply below4⟩
 subst hx
 by_cases hn1 : n < 0
 case pos =>
  have hn3 : decide (n < 0) = true := decide_eq_true hn1
  have HN := LH (show ownN 8 [] [] n ⟨l1, l2, l3⟩ ⟨r1, r2, r3⟩ occ kn = false from by have hq : ¬ n = 0 := (by omega); unfold ownN; simp [hq])
  clear hn1
  go_enter Tryd.func35, Tryd.ntmps35
  go_wp2
  go_ret
  exact ⟨ret_bool HN.out.symm, by first | apply below2 | apply below3 | apply below4⟩
 have hn3 : decide (n < 0) = false := decide_eq_false hn1
 by_cases hn2 : 0 < n
 case pos =>
  have hn4 : decide (0 < n) = true := decide_eq_true hn2
  have HN := LH (show ownN 8 [] [] n ⟨l1, l2, l3⟩ ⟨r1, r2, r3⟩ occ kn = false from by have hq : ¬ n = 0 := (by omega); unfold ownN; simp [hq])
  clear hn1 hn2
  go_enter Tryd.func35, Tryd.ntmps35
  go_wp2
  go_ret
  exact ⟨ret_bool HN.out.symm, by first | apply below2 | apply below3 | apply below4⟩
 have hn4 : decide (0 < n) = false := decide_eq_false hn2
 have HNN := LH (show 0 ≤ n ∧ n ≤ 0 from by omega)
 clear hn1 hn2
 cases b1 with
 | false =>
  have HN := LH (show ownN 8 [] [] n ⟨l1, l2, l3⟩ ⟨r1, r2, r3⟩ occ kn = false from by unfold ownN; simp [HE1.out])
  go_enter Tryd.func35, Tryd.ntmps35
  go_wp2
  go_ret
  exact ⟨ret_bool HN.out.symm, by first | apply below2 | apply below3 | apply below4⟩
 | true =>
  cases b2 with
  | false =>
   have HN := LH (show ownN 8 [] [] n ⟨l1, l2, l3⟩ ⟨r1, r2, r3⟩ occ kn = false from by unfold ownN; simp [HE2.out])
   go_enter Tryd.func35, Tryd.ntmps35
   go_wp2
   go_ret
   exact ⟨ret_bool HN.out.symm, by first | apply below2 | apply below3 | apply below4⟩
  | true =>
   by_cases hk1 : kn = 0
   case neg =>
    have hk5 : 0 < kn := by omega
    have hk6 : 1 ≤ kn := by omega
    have hk7 : decide (0 < kn) = true := decide_eq_true (by omega)
    have hk8 : decide (kn < 1) = false := decide_eq_false (by omega)
    have hk9 : decide ((kn : Int) < 1) = false := decide_eq_false (by omega)
    have HN := LH (show ownN 8 [] [] n ⟨l1, l2, l3⟩ ⟨r1, r2, r3⟩ occ kn = false from by unfold ownN; rw [Bool.eq_false_iff]; simp; omega)
    clear hk1
    go_enter Tryd.func35, Tryd.ntmps35
    go_wp2
    go_ret
    exact ⟨ret_bool HN.out.symm, by first | apply below2 | apply below3 | apply below4⟩
   subst hk1
   by_cases ho1 : 0 < occ.length
   case pos =>
    have ho3 : decide ((0 : Int) < (occ.length : Int)) = true := decide_eq_true (by omega)
    have HN := LH (show ownN 8 [] [] n ⟨l1, l2, l3⟩ ⟨r1, r2, r3⟩ occ 0 = false from by cases occ with | nil => (exact absurd ho1 (Nat.lt_irrefl _)) | cons c t => (unfold ownN; simp))
    go_enter Tryd.func35, Tryd.ntmps35
    go_wp2
    go_ret
    exact ⟨ret_bool HN.out.symm, by first | apply below2 | apply below3 | apply below4⟩
   obtain rfl : occ = [] := List.eq_nil_of_length_eq_zero (by omega)
   have HKN := LH (trivial)
   clear ho1
   have HN := LH (show ownN 8 [] [] n ⟨l1, l2, l3⟩ ⟨r1, r2, r3⟩ [] 0 = true from by
    have h1 := HNN.out; have h2 := HKN.out
    obtain rfl : n = 0 := by omega
    unfold ownN; simp [HE1.out, HE2.out, h2])
   go_enter Tryd.func35, Tryd.ntmps35
   go_wp2
   go_loop [124] (fun iv => iv = .int .i64 0) (fun _ => 0)
   case atStart => exact rfl
   case round =>
    subst hrel
    go_wp2
    go_ret
    exact ⟨ret_bool HN.out.symm, by first | apply below2 | apply below4⟩
end Go.Proofs.YthcldpminmhgkaaDoor
end
