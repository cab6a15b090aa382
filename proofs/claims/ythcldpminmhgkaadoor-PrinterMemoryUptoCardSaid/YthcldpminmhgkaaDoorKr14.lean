/- Merged for a claim by shake.py: Je3 -/
import Derived.Test.YthcldpminmhgkaaDoorKrA
import Derived.Test.YthcldpminmhgkaaDoorKr12
set_option maxRecDepth 100000
set_option maxHeartbeats 4000000
set_option linter.unusedSimpArgs false
set_option linter.unusedVariables false
section
namespace Go.Proofs.YthcldpminmhgkaaDoor
open Go.RowKit
theorem own_9 : OwnOk 9 := by
 intro n field text lo hi occ oa ka oc kn kc w F hA hO ht
 obtain ⟨l1, l2, l3⟩ := lo; obtain ⟨r1, r2, r3⟩ := hi
 have a0 : w.cell? ⟨17, 90, none⟩ = some (.bool false) := hA.1 90 _ rfl
 have a1 : w.cell? ⟨17, 91, none⟩ = some (.bool false) := hA.1 91 _ rfl
 have a2 : w.cell? ⟨17, 92, none⟩ = some (.int .i64 0) := hA.1 92 _ rfl
 have a3 : w.cell? ⟨17, 93, none⟩ = some (.int .i64 999999999) := hA.1 93 _ rfl
 have a4 : w.cell? ⟨17, 94, none⟩ = some (.bool false) := hA.1 94 _ rfl
 have a5 : w.cell? ⟨17, 95, none⟩ = some (.bool true) := hA.1 95 _ rfl
 have a6 : w.cell? ⟨17, 96, none⟩ = some (.int .i64 1) := hA.1 96 _ rfl
 have a7 : w.cell? ⟨17, 97, none⟩ = some (.int .i64 (-1)) := hA.1 97 _ rfl
 have a8 : w.cell? ⟨17, 98, none⟩ = some (.int .i64 0) := hA.1 98 _ rfl
 have a9 : w.cell? ⟨17, 99, none⟩ = some (.string ⟨#[]⟩) := hA.1 99 _ rfl
 have hag := hA.2
 have honb : occ.length ≤ 9223372036854775807 := by have h : occ.length ≤ maxLen := Nat.le_trans hO.2.1 hO.2.2.1; unfold maxLen at h; omega
 have HO := LH hO; have HT := LH ht
 have q1 := fun W => bd_nez l1 l2 l3 W; have q2 := fun W => bd_nez r1 r2 r3 W
 have q3 := fun op x y u W => bd_grd l1 l2 (str l3) op x y u W; have q4 := fun op x y u W => bd_grd r1 r2 (str r3) op x y u W
 generalize hb1 : Bd.nil ⟨l1, l2, l3⟩ = b1 at *; generalize hb2 : Bd.nil ⟨r1, r2, r3⟩ = b2 at *
 have HE1 := LH hb1; have HE2 := LH hb2
 clear hb1 hb2 hA hO ht
 simp only []
 by_cases hf : field = []
 case neg =>
  have hf1 : (str field).toList.isEmpty = false := by rw [str_toList]; cases field; exact absurd rfl hf; rfl
  have hf2 : ¬ (str field).toList = [] := by rw [str_toList]; exact hf
  have HN := LH (show ownN 9 field text n ⟨l1, l2, l3⟩ ⟨r1, r2, r3⟩ occ kn = false from by unfold ownN; simp [hf])
  clear hf
  go_enter Tryd.func35, Tryd.ntmps35
  go_wp2
  go_ret
  exact ⟨ret_bool HN.out.symm, by first | apply below2 | apply below3 | apply below4⟩
 subst hf
 have hse : (str []).toList = [] := str_toList []; have hse2 : (str []).toList.isEmpty = true := by rw [str_toList]; rfl
 by_cases hx : text = []
 case neg =>
  have hx1 : (str text).toList.isEmpty = false := by rw [str_toList]; cases text; exact absurd rfl hx; rfl
  have hx2 : ¬ (str text).toList = [] := by rw [str_toList]; exact hx
  have HN := LH (show ownN 9 [] text n ⟨l1, l2, l3⟩ ⟨r1, r2, r3⟩ occ kn = false from by unfold ownN; simp [hx])
  clear hx
  go_enter Tryd.func35, Tryd.ntmps35
  go_wp2
  go_ret
  exact ⟨ret_bool HN.out.symm, by first | apply below2 | apply below3 | apply below4⟩
 subst hx
 by_cases hn1 : n < 0
 case pos =>
  have hn3 : decide (n < 0) = true := decide_eq_true hn1
  have HN := LH (show ownN 9 [] [] n ⟨l1, l2, l3⟩ ⟨r1, r2, r3⟩ occ kn = false from by have hq : numB n = false := (by unfold numB maxNum; rw [decide_eq_false (show ¬ 0 ≤ n by omega), Bool.false_and]); unfold ownN; simp [hq])
  clear hn1
  go_enter Tryd.func35, Tryd.ntmps35
  go_wp2
  go_ret
  exact ⟨ret_bool HN.out.symm, by first | apply below2 | apply below3 | apply below4⟩
 have hn3 : decide (n < 0) = false := decide_eq_false hn1
 by_cases hn2 : 999999999 < n
 case pos =>
  have hn4 : decide (999999999 < n) = true := decide_eq_true hn2
  have HN := LH (show ownN 9 [] [] n ⟨l1, l2, l3⟩ ⟨r1, r2, r3⟩ occ kn = false from by have hq : numB n = false := (by unfold numB maxNum; rw [decide_eq_false (show ¬ n ≤ 999999999 by omega), Bool.and_false]); unfold ownN; simp [hq])
  clear hn1 hn2
  go_enter Tryd.func35, Tryd.ntmps35
  go_wp2
  go_ret
  exact ⟨ret_bool HN.out.symm, by first | apply below2 | apply below3 | apply below4⟩
 have hn4 : decide (999999999 < n) = false := decide_eq_false hn2
 have HNN := LH (show 0 ≤ n ∧ n ≤ 999999999 from by omega)
 clear hn1 hn2
 cases b1 with
 | false =>
  have HN := LH (show ownN 9 [] [] n ⟨l1, l2, l3⟩ ⟨r1, r2, r3⟩ occ kn = false from by unfold ownN; simp [HE1.out])
  go_enter Tryd.func35, Tryd.ntmps35
  go_wp2
  go_ret
  exact ⟨ret_bool HN.out.symm, by first | apply below2 | apply below3 | apply below4⟩
 | true =>
  cases b2 with
  | false =>
   have HN := LH (show ownN 9 [] [] n ⟨l1, l2, l3⟩ ⟨r1, r2, r3⟩ occ kn = false from by unfold ownN; simp [HE2.out])
   go_enter Tryd.func35, Tryd.ntmps35
   go_wp2
   go_ret
   exact ⟨ret_bool HN.out.symm, by first | apply below2 | apply below3 | apply below4⟩
  | true =>
   by_cases hk1 : kn = 0
   case pos =>
    subst hk1
    have HN := LH (show ownN 9 [] [] n ⟨l1, l2, l3⟩ ⟨r1, r2, r3⟩ occ 0 = false from by unfold ownN; simp)
    go_enter Tryd.func35, Tryd.ntmps35
    go_wp2
    go_ret
    exact ⟨ret_bool HN.out.symm, by first | apply below2 | apply below3 | apply below4⟩
   have hk5 : 0 < kn := by omega
   have hk6 : 1 ≤ kn := by omega
   have hk7 : decide (0 < kn) = true := decide_eq_true (by omega)
   have hk8 : decide (kn < 1) = false := decide_eq_false (by omega)
   have hk9 : decide ((kn : Int) < 1) = false := decide_eq_false (by omega)
   by_cases ho1 : occ.length = kn
   case neg =>
    have ho3 : ((occ.length : Int) != (kn : Int)) = true := by rw [bne_iff_ne]; omega
    have HN := LH (show ownN 9 [] [] n ⟨l1, l2, l3⟩ ⟨r1, r2, r3⟩ occ kn = false from by unfold ownN; rw [Bool.eq_false_iff]; simp; omega)
    clear ho1
    go_enter Tryd.func35, Tryd.ntmps35
    go_wp2
    go_ret
    exact ⟨ret_bool HN.out.symm, by first | apply below2 | apply below3 | apply below4⟩
   have ho3 : ((occ.length : Int) != (kn : Int)) = false := by rw [bne_eq_false_iff_eq]; omega
   have HKN := LH (show 0 < kn ∧ occ.length = kn from by omega)
   clear ho1
   go_enter Tryd.func35, Tryd.ntmps35
   go_wp2
   go_loop [124] (fun iv => ∃ j : Nat, j ≤ occ.length ∧ iv = .int .i64 (j : Int) ∧ ∀ (i : Nat) (x : Int), i < j → occ[i]? = some x → 0 ≤ x ∧ x ≤ 2) (fun iv => occ.length - (intOf iv).toNat)
   case atStart => exact ⟨0, Nat.zero_le _, rfl, fun i x h => absurd h (Nat.not_lt_zero _)⟩
   case round =>
    obtain ⟨j, hj, rfl, hall⟩ := hrel
    have HALL := LH hall; clear hall
    by_cases hlt : j < occ.length
    case neg =>
     have HN := LH (show ownN 9 [] [] n ⟨l1, l2, l3⟩ ⟨r1, r2, r3⟩ occ kn = true from by
      have h1 := HNN.out; have h2 := HKN.out
      have h3 : occB occ = true := occ_good fun i x hi => HALL.out i x (by have := (List.getElem?_eq_some_iff.1 hi).1; omega) hi
      have h4 : numB n = true := numB_iff.2 h1
      unfold ownN; simp [HE1.out, HE2.out, h3, h4, h2.2, h2.1])
     go_wp2
     go_ret
     exact ⟨ret_bool HN.out.symm, below2 _ _ _⟩
    obtain ⟨a, rfl, hca⟩ := occ_cell HO.out hlt
    have hcb := World.block_lt_of_cell? w _ hca
    have HX := LH (List.getElem?_eq_getElem hlt)
    have HXB := LH (fun (h : ¬ (0 ≤ occ[j] ∧ occ[j] ≤ 2)) => occ_bad hlt h)
    generalize occ[j] = x at *
    by_cases hx3 : 0 ≤ x ∧ x ≤ 2
    case pos =>
     have HXX := LH hx3
     have hx4 : x = 0 ∨ x = 1 ∨ x = 2 := by omega
     clear hx3
     rcases hx4 with rfl | rfl | rfl
     all_goals
      go_wp2
      go_round
      case rel =>
       refine ⟨j + 1, hlt, by go_num, fun i y hi hy => ?_⟩
       by_cases hij : i = j
       ·subst hij; rw [HX.out] at hy; injection hy with hy; rw [← hy]; decide
       ·exact HALL.out i y (by omega) hy
      case measure => simp [intOf]; omega
    have HN := LH (show ownN 9 [] [] n ⟨l1, l2, l3⟩ ⟨r1, r2, r3⟩ occ kn = false from by have h3 := HXB.out hx3; unfold ownN; simp [h3])
    have e0 : (x != 0) = true := by rw [bne_iff_ne]; omega
    have e1 : (x != 1) = true := by rw [bne_iff_ne]; omega
    have e2 : (x != 2) = true := by rw [bne_iff_ne]; omega
    clear hx3
    go_wp2
    go_ret
    exact ⟨ret_bool HN.out.symm, below2 _ _ _⟩
theorem own_10 : OwnOk 10 := by
 intro n field text lo hi occ oa ka oc kn kc w F hA hO ht
 obtain ⟨l1, l2, l3⟩ := lo; obtain ⟨r1, r2, r3⟩ := hi
 have a0 : w.cell? ⟨17, 100, none⟩ = some (.bool false) := hA.1 100 _ rfl
 have a1 : w.cell? ⟨17, 101, none⟩ = some (.bool false) := hA.1 101 _ rfl
 have a2 : w.cell? ⟨17, 102, none⟩ = some (.int .i64 0) := hA.1 102 _ rfl
 have a3 : w.cell? ⟨17, 103, none⟩ = some (.int .i64 0) := hA.1 103 _ rfl
 have a4 : w.cell? ⟨17, 104, none⟩ = some (.bool false) := hA.1 104 _ rfl
 have a5 : w.cell? ⟨17, 105, none⟩ = some (.bool false) := hA.1 105 _ rfl
 have a6 : w.cell? ⟨17, 106, none⟩ = some (.int .i64 1) := hA.1 106 _ rfl
 have a7 : w.cell? ⟨17, 107, none⟩ = some (.int .i64 (-1)) := hA.1 107 _ rfl
 have a8 : w.cell? ⟨17, 108, none⟩ = some (.int .i64 2) := hA.1 108 _ rfl
 have a9 : w.cell? ⟨17, 109, none⟩ = some (.string ⟨#[32, 65, 78, 68, 32]⟩) := hA.1 109 _ rfl
 have hag := hA.2
 have honb : occ.length ≤ 9223372036854775807 := by have h : occ.length ≤ maxLen := Nat.le_trans hO.2.1 hO.2.2.1; unfold maxLen at h; omega
 have HO := LH hO; have HT := LH ht
 have q1 := fun W => bd_nez l1 l2 l3 W; have q2 := fun W => bd_nez r1 r2 r3 W
 have q3 := fun op x y u W => bd_grd l1 l2 (str l3) op x y u W; have q4 := fun op x y u W => bd_grd r1 r2 (str r3) op x y u W
 generalize hb1 : Bd.nil ⟨l1, l2, l3⟩ = b1 at *; generalize hb2 : Bd.nil ⟨r1, r2, r3⟩ = b2 at *
 have HE1 := LH hb1; have HE2 := LH hb2
 clear hb1 hb2 hA hO ht
 simp only []
 by_cases hf : field = []
 case neg =>
  have hf1 : (str field).toList.isEmpty = false := by rw [str_toList]; cases field; exact absurd rfl hf; rfl
  have hf2 : ¬ (str field).toList = [] := by rw [str_toList]; exact hf
  have HN := LH (show ownN 10 field text n ⟨l1, l2, l3⟩ ⟨r1, r2, r3⟩ occ kn = false from by unfold ownN; simp [hf])
  clear hf
  go_enter Tryd.func35, Tryd.ntmps35
  go_wp2
  go_ret
  exact ⟨ret_bool HN.out.symm, by first | apply below2 | apply below3 | apply below4⟩
 subst hf
 have hse : (str []).toList = [] := str_toList []; have hse2 : (str []).toList.isEmpty = true := by rw [str_toList]; rfl
 by_cases hx : text = []
 case neg =>
  have hx1 : (str text).toList.isEmpty = false := by rw [str_toList]; cases text; exact absurd rfl hx; rfl
  have hx2 : ¬ (str text).toList = [] := by rw [str_toList]; exact hx
  have HN := LH (show ownN 10 [] text n ⟨l1, l2, l3⟩ ⟨r1, r2, r3⟩ occ kn = false from by unfold ownN; simp [hx])
  clear hx
  go_enter Tryd.func35, Tryd.ntmps35
  go_wp2
  go_ret
  exact ⟨ret_bool HN.out.symm, by first | apply below2 | apply below3 | apply below4⟩
 subst hx
 by_cases hn1 : n < 0
 case pos =>
  have hn3 : decide (n < 0) = true := decide_eq_true hn1
  have HN := LH (show ownN 10 [] [] n ⟨l1, l2, l3⟩ ⟨r1, r2, r3⟩ occ kn = false from by have hq : ¬ n = 0 := (by omega); unfold ownN; simp [hq])
  clear hn1
  go_enter Tryd.func35, Tryd.ntmps35
  go_wp2
  go_ret
  exact ⟨ret_bool HN.out.symm, by first | apply below2 | apply below3 | apply below4⟩
 have hn3 : decide (n < 0) = false := decide_eq_false hn1
 by_cases hn2 : 0 < n
 case pos =>
  have hn4 : decide (0 < n) = true := decide_eq_true hn2
  have HN := LH (show ownN 10 [] [] n ⟨l1, l2, l3⟩ ⟨r1, r2, r3⟩ occ kn = false from by have hq : ¬ n = 0 := (by omega); unfold ownN; simp [hq])
  clear hn1 hn2
  go_enter Tryd.func35, Tryd.ntmps35
  go_wp2
  go_ret
  exact ⟨ret_bool HN.out.symm, by first | apply below2 | apply below3 | apply below4⟩
 have hn4 : decide (0 < n) = false := decide_eq_false hn2
 have HNN := LH (show 0 ≤ n ∧ n ≤ 0 from by omega)
 clear hn1 hn2
 cases b1 with
 | false =>
  have HN := LH (show ownN 10 [] [] n ⟨l1, l2, l3⟩ ⟨r1, r2, r3⟩ occ kn = false from by unfold ownN; simp [HE1.out])
  go_enter Tryd.func35, Tryd.ntmps35
  go_wp2
  go_ret
  exact ⟨ret_bool HN.out.symm, by first | apply below2 | apply below3 | apply below4⟩
 | true =>
  cases b2 with
  | false =>
   have HN := LH (show ownN 10 [] [] n ⟨l1, l2, l3⟩ ⟨r1, r2, r3⟩ occ kn = false from by unfold ownN; simp [HE2.out])
   go_enter Tryd.func35, Tryd.ntmps35
   go_wp2
   go_ret
   exact ⟨ret_bool HN.out.symm, by first | apply below2 | apply below3 | apply below4⟩
  | true =>
   by_cases hk1 : kn = 0
   case pos =>
    subst hk1
    have HN := LH (show ownN 10 [] [] n ⟨l1, l2, l3⟩ ⟨r1, r2, r3⟩ occ 0 = false from by unfold ownN; simp)
    go_enter Tryd.func35, Tryd.ntmps35
    go_wp2
    go_ret
    exact ⟨ret_bool HN.out.symm, by first | apply below2 | apply below3 | apply below4⟩
   have hk5 : 0 < kn := by omega
   have hk6 : 1 ≤ kn := by omega
   have hk7 : decide (0 < kn) = true := decide_eq_true (by omega)
   have hk8 : decide (kn < 1) = false := decide_eq_false (by omega)
   have hk9 : decide ((kn : Int) < 1) = false := decide_eq_false (by omega)
   by_cases ho1 : 0 < occ.length
   case pos =>
    have ho3 : decide ((0 : Int) < (occ.length : Int)) = true := decide_eq_true (by omega)
    have HN := LH (show ownN 10 [] [] n ⟨l1, l2, l3⟩ ⟨r1, r2, r3⟩ occ kn = false from by cases occ with | nil => (exact absurd ho1 (Nat.lt_irrefl _)) | cons c t => (unfold ownN; simp))
    go_enter Tryd.func35, Tryd.ntmps35
    go_wp2
    go_ret
    exact ⟨ret_bool HN.out.symm, by first | apply below2 | apply below3 | apply below4⟩
   obtain rfl : occ = [] := List.eq_nil_of_length_eq_zero (by omega)
   have HKN := LH (show 0 < kn from by omega)
   clear ho1
   have HN := LH (show ownN 10 [] [] n ⟨l1, l2, l3⟩ ⟨r1, r2, r3⟩ [] kn = true from by
    have h1 := HNN.out; have h2 := HKN.out
    obtain rfl : n = 0 := by omega
    unfold ownN; simp [HE1.out, HE2.out, h2])
   go_enter Tryd.func35, Tryd.ntmps35
   go_wp2
   go_loop [124] (fun iv => iv = .int .i64 0) (fun _ => 0)
   case atStart => exact rfl
   case round =>
    subst hrel
    go_wp2
    go_ret
    exact ⟨ret_bool HN.out.symm, by first | apply below2 | apply below4⟩
theorem own_11 : OwnOk 11 := by
 intro n field text lo hi occ oa ka oc kn kc w F hA hO ht
 obtain ⟨l1, l2, l3⟩ := lo; obtain ⟨r1, r2, r3⟩ := hi
 have a0 : w.cell? ⟨17, 110, none⟩ = some (.bool false) := hA.1 110 _ rfl
 have a1 : w.cell? ⟨17, 111, none⟩ = some (.bool false) := hA.1 111 _ rfl
 have a2 : w.cell? ⟨17, 112, none⟩ = some (.int .i64 0) := hA.1 112 _ rfl
 have a3 : w.cell? ⟨17, 113, none⟩ = some (.int .i64 0) := hA.1 113 _ rfl
 have a4 : w.cell? ⟨17, 114, none⟩ = some (.bool false) := hA.1 114 _ rfl
 have a5 : w.cell? ⟨17, 115, none⟩ = some (.bool false) := hA.1 115 _ rfl
 have a6 : w.cell? ⟨17, 116, none⟩ = some (.int .i64 1) := hA.1 116 _ rfl
 have a7 : w.cell? ⟨17, 117, none⟩ = some (.int .i64 (-1)) := hA.1 117 _ rfl
 have a8 : w.cell? ⟨17, 118, none⟩ = some (.int .i64 1) := hA.1 118 _ rfl
 have a9 : w.cell? ⟨17, 119, none⟩ = some (.string ⟨#[32, 79, 82, 32]⟩) := hA.1 119 _ rfl
 have hag := hA.2
 have honb : occ.length ≤ 9223372036854775807 := by have h : occ.length ≤ maxLen := Nat.le_trans hO.2.1 hO.2.2.1; unfold maxLen at h; omega
 have HO := LH hO; have HT := LH ht
 have q1 := fun W => bd_nez l1 l2 l3 W; have q2 := fun W => bd_nez r1 r2 r3 W
 have q3 := fun op x y u W => bd_grd l1 l2 (str l3) op x y u W; have q4 := fun op x y u W => bd_grd r1 r2 (str r3) op x y u W
 generalize hb1 : Bd.nil ⟨l1, l2, l3⟩ = b1 at *; generalize hb2 : Bd.nil ⟨r1, r2, r3⟩ = b2 at *
 have HE1 := LH hb1; have HE2 := LH hb2
 clear hb1 hb2 hA hO ht
 simp only []
 by_cases hf : field = []
 case neg =>
  have hf1 : (str field).toList.isEmpty = false := by rw [str_toList]; cases field; exact absurd rfl hf; rfl
  have hf2 : ¬ (str field).toList = [] := by rw [str_toList]; exact hf
  have HN := LH (show ownN 11 field text n ⟨l1, l2, l3⟩ ⟨r1, r2, r3⟩ occ kn = false from by unfold ownN; simp [hf])
  clear hf
  go_enter Tryd.func35, Tryd.ntmps35
  go_wp2
  go_ret
  exact ⟨ret_bool HN.out.symm, by first | apply below2 | apply below3 | apply below4⟩
 subst hf
 have hse : (str []).toList = [] := str_toList []; have hse2 : (str []).toList.isEmpty = true := by rw [str_toList]; rfl
 by_cases hx : text = []
 case neg =>
  have hx1 : (str text).toList.isEmpty = false := by rw [str_toList]; cases text; exact absurd rfl hx; rfl
  have hx2 : ¬ (str text).toList = [] := by rw [str_toList]; exact hx
  have HN := LH (show ownN 11 [] text n ⟨l1, l2, l3⟩ ⟨r1, r2, r3⟩ occ kn = false from by unfold ownN; simp [hx])
  clear hx
  go_enter Tryd.func35, Tryd.ntmps35
  go_wp2
  go_ret
  exact ⟨ret_bool HN.out.symm, by first | apply below2 | apply below3 | apply below4⟩
 subst hx
 by_cases hn1 : n < 0
 case pos =>
  have hn3 : decide (n < 0) = true := decide_eq_true hn1
  have HN := LH (show ownN 11 [] [] n ⟨l1, l2, l3⟩ ⟨r1, r2, r3⟩ occ kn = false from by have hq : ¬ n = 0 := (by omega); unfold ownN; simp [hq])
  clear hn1
  go_enter Tryd.func35, Tryd.ntmps35
  go_wp2
  go_ret
  exact ⟨ret_bool HN.out.symm, by first | apply below2 | apply below3 | apply below4⟩
 have hn3 : decide (n < 0) = false := decide_eq_false hn1
 by_cases hn2 : 0 < n
 case pos =>
  have hn4 : decide (0 < n) = true := decide_eq_true hn2
  have HN := LH (show ownN 11 [] [] n ⟨l1, l2, l3⟩ ⟨r1, r2, r3⟩ occ kn = false from by have hq : ¬ n = 0 := (by omega); unfold ownN; simp [hq])
  clear hn1 hn2
  go_enter Tryd.func35, Tryd.ntmps35
  go_wp2
  go_ret
  exact ⟨ret_bool HN.out.symm, by first | apply below2 | apply below3 | apply below4⟩
 have hn4 : decide (0 < n) = false := decide_eq_false hn2
 have HNN := LH (show 0 ≤ n ∧ n ≤ 0 from by omega)
 clear hn1 hn2
 cases b1 with
 | false =>
  have HN := LH (show ownN 11 [] [] n ⟨l1, l2, l3⟩ ⟨r1, r2, r3⟩ occ kn = false from by unfold ownN; simp [HE1.out])
  go_enter Tryd.func35, Tryd.ntmps35
  go_wp2
  go_ret
  exact ⟨ret_bool HN.out.symm, by first | apply below2 | apply below3 | apply below4⟩
 | true =>
  cases b2 with
  | false =>
   have HN := LH (show ownN 11 [] [] n ⟨l1, l2, l3⟩ ⟨r1, r2, r3⟩ occ kn = false from by unfold ownN; simp [HE2.out])
   go_enter Tryd.func35, Tryd.ntmps35
   go_wp2
   go_ret
   exact ⟨ret_bool HN.out.symm, by first | apply below2 | apply below3 | apply below4⟩
  | true =>
   by_cases hk1 : kn = 0
   case pos =>
    subst hk1
    have HN := LH (show ownN 11 [] [] n ⟨l1, l2, l3⟩ ⟨r1, r2, r3⟩ occ 0 = false from by unfold ownN; simp)
    go_enter Tryd.func35, Tryd.ntmps35
    go_wp2
    go_ret
    exact ⟨ret_bool HN.out.symm, by first | apply below2 | apply below3 | apply below4⟩
   have hk5 : 0 < kn := by omega
   have hk6 : 1 ≤ kn := by omega
   have hk7 : decide (0 < kn) = true := decide_eq_true (by omega)
   have hk8 : decide (kn < 1) = false := decide_eq_false (by omega)
   have hk9 : decide ((kn : Int) < 1) = false := decide_eq_false (by omega)
   by_cases ho1 : 0 < occ.length
   case pos =>
    have ho3 : decide ((0 : Int) < (occ.length : Int)) = true := decide_eq_true (by omega)
    have HN := LH (show ownN 11 [] [] n ⟨l1, l2, l3⟩ ⟨r1, r2, r3⟩ occ kn = false from by cases occ with | nil => (exact absurd ho1 (Nat.lt_irrefl _)) | cons c t => (unfold ownN; simp))
    go_enter Tryd.func35, Tryd.ntmps35
    go_wp2
    go_ret
    exact ⟨ret_bool HN.out.symm, by first | apply below2 | apply below3 | apply below4⟩
   obtain rfl : occ = [] := List.eq_nil_of_length_eq_zero (by omega)
   have HKN := LH (show 0 < kn from by omega)
   clear ho1
   have HN := LH (show ownN 11 [] [] n ⟨l1, l2, l3⟩ ⟨r1, r2, r3⟩ [] kn = true from by
    have h1 := HNN.out; have h2 := HKN.out
    obtain rfl : n = 0 := by omega
    unfold ownN; simp [HE1.out, HE2.out, h2])
   go_enter Tryd.func35, Tryd.ntmps35
   go_wp2
   go_loop [124] (fun iv => iv = .int .i64 0) (fun _ => 0)
   case atStart => exact rfl
   case round =>
    subst hrel
    go_wp2
    go_ret
    exact ⟨ret_bool HN.out.symm, by first | apply below2 | apply below4⟩
theorem own_12 : OwnOk 12 := by
 intro n field text lo hi occ oa ka oc kn kc w F hA hO ht
 obtain ⟨l1, l2, l3⟩ := lo; obtain ⟨r1, r2, r3⟩ := hi
 have a0 : w.cell? ⟨17, 120, none⟩ = some (.bool false) := hA.1 120 _ rfl
 have a1 : w.cell? ⟨17, 121, none⟩ = some (.bool false) := hA.1 121 _ rfl
 have a2 : w.cell? ⟨17, 122, none⟩ = some (.int .i64 0) := hA.1 122 _ rfl
 have a3 : w.cell? ⟨17, 123, none⟩ = some (.int .i64 0) := hA.1 123 _ rfl
 have a4 : w.cell? ⟨17, 124, none⟩ = some (.bool false) := hA.1 124 _ rfl
 have a5 : w.cell? ⟨17, 125, none⟩ = some (.bool false) := hA.1 125 _ rfl
 have a6 : w.cell? ⟨17, 126, none⟩ = some (.int .i64 1) := hA.1 126 _ rfl
 have a7 : w.cell? ⟨17, 127, none⟩ = some (.int .i64 (-1)) := hA.1 127 _ rfl
 have a8 : w.cell? ⟨17, 128, none⟩ = some (.int .i64 3) := hA.1 128 _ rfl
 have a9 : w.cell? ⟨17, 129, none⟩ = some (.string ⟨#[32, 124, 32]⟩) := hA.1 129 _ rfl
 have hag := hA.2
 have honb : occ.length ≤ 9223372036854775807 := by have h : occ.length ≤ maxLen := Nat.le_trans hO.2.1 hO.2.2.1; unfold maxLen at h; omega
 have HO := LH hO; have HT := LH ht
 have q1 := fun W => bd_nez l1 l2 l3 W; have q2 := fun W => bd_nez r1 r2 r3 W
 have q3 := fun op x y u W => bd_grd l1 l2 (str l3) op x y u W; have q4 := fun op x y u W => bd_grd r1 r2 (str r3) op x y u W
 generalize hb1 : Bd.nil ⟨l1, l2, l3⟩ = b1 at *; generalize hb2 : Bd.nil ⟨r1, r2, r3⟩ = b2 at *
 have HE1 := LH hb1; have HE2 := LH hb2
 clear hb1 hb2 hA hO ht
 simp only []
 by_cases hf : field = []
 case neg =>
  have hf1 : (str field).toList.isEmpty = false := by rw [str_toList]; cases field; exact absurd rfl hf; rfl
  have hf2 : ¬ (str field).toList = [] := by rw [str_toList]; exact hf
  have HN := LH (show ownN 12 field text n ⟨l1, l2, l3⟩ ⟨r1, r2, r3⟩ occ kn = false from by unfold ownN; simp [hf])
  clear hf
  go_enter Tryd.func35, Tryd.ntmps35
  go_wp2
  go_ret
  exact ⟨ret_bool HN.out.symm, by first | apply below2 | apply below3 | apply below4⟩
 subst hf
 have hse : (str []).toList = [] := str_toList []; have hse2 : (str []).toList.isEmpty = true := by rw [str_toList]; rfl
 by_cases hx : text = []
 case neg =>
  have hx1 : (str text).toList.isEmpty = false := by rw [str_toList]; cases text; exact absurd rfl hx; rfl
  have hx2 : ¬ (str text).toList = [] := by rw [str_toList]; exact hx
  have HN := LH (show ownN 12 [] text n ⟨l1, l2, l3⟩ ⟨r1, r2, r3⟩ occ kn = false from by unfold ownN; simp [hx])
  clear hx
  go_enter Tryd.func35, Tryd.ntmps35
  go_wp2
  go_ret
  exact ⟨ret_bool HN.out.symm, by first | apply below2 | apply below3 | apply below4⟩
 subst hx
 by_cases hn1 : n < 0
 case pos =>
  have hn3 : decide (n < 0) = true := decide_eq_true hn1
  have HN := LH (show ownN 12 [] [] n ⟨l1, l2, l3⟩ ⟨r1, r2, r3⟩ occ kn = false from by have hq : ¬ n = 0 := (by omega); unfold ownN; simp [hq])
  clear hn1
  go_enter Tryd.func35, Tryd.ntmps35
  go_wp2
  go_ret
  exact ⟨ret_bool HN.out.symm, by first | apply below2 | apply below3 | apply below4⟩
 have hn3 : decide (n < 0) = false := decide_eq_false hn1
 by_cases hn2 : 0 < n
 case pos =>
  have hn4 : decide (0 < n) = true := decide_eq_true hn2
  have HN := LH (show ownN 12 [] [] n ⟨l1, l2, l3⟩ ⟨r1, r2, r3⟩ occ kn = false from by have hq : ¬ n = 0 := (by omega); unfold ownN; simp [hq])
  clear hn1 hn2
  go_enter Tryd.func35, Tryd.ntmps35
  go_wp2
  go_ret
  exact ⟨ret_bool HN.out.symm, by first | apply below2 | apply below3 | apply below4⟩
 have hn4 : decide (0 < n) = false := decide_eq_false hn2
 have HNN := LH (show 0 ≤ n ∧ n ≤ 0 from by omega)
 clear hn1 hn2
 cases b1 with
 | false =>
  have HN := LH (show ownN 12 [] [] n ⟨l1, l2, l3⟩ ⟨r1, r2, r3⟩ occ kn = false from by unfold ownN; simp [HE1.out])
  go_enter Tryd.func35, Tryd.ntmps35
  go_wp2
  go_ret
  exact ⟨ret_bool HN.out.symm, by first | apply below2 | apply below3 | apply below4⟩
 | true =>
  cases b2 with
  | false =>
   have HN := LH (show ownN 12 [] [] n ⟨l1, l2, l3⟩ ⟨r1, r2, r3⟩ occ kn = false from by unfold ownN; simp [HE2.out])
   go_enter Tryd.func35, Tryd.ntmps35
   go_wp2
   go_ret
   exact ⟨ret_bool HN.out.symm, by first | apply below2 | apply below3 | apply below4⟩
  | true =>
   by_cases hk1 : kn = 0
   case pos =>
    subst hk1
    have HN := LH (show ownN 12 [] [] n ⟨l1, l2, l3⟩ ⟨r1, r2, r3⟩ occ 0 = false from by unfold ownN; simp)
    go_enter Tryd.func35, Tryd.ntmps35
    go_wp2
    go_ret
    exact ⟨ret_bool HN.out.symm, by first | apply below2 | apply below3 | apply below4⟩
   have hk5 : 0 < kn := by omega
   have hk6 : 1 ≤ kn := by omega
   have hk7 : decide (0 < kn) = true := decide_eq_true (by omega)
   have hk8 : decide (kn < 1) = false := decide_eq_false (by omega)
   have hk9 : decide ((kn : Int) < 1) = false := decide_eq_false (by omega)
   by_cases ho1 : 0 < occ.length
   case pos =>
    have ho3 : decide ((0 : Int) < (occ.length : Int)) = true := decide_eq_true (by omega)
    have HN := LH (show ownN 12 [] [] n ⟨l1, l2, l3⟩ ⟨r1, r2, r3⟩ occ kn = false from by cases occ with | nil => (exact absurd ho1 (Nat.lt_irrefl _)) | cons c t => (unfold ownN; simp))
    go_enter Tryd.func35, Tryd.ntmps35
    go_wp2
    go_ret
    exact ⟨ret_bool HN.out.symm, by first | apply below2 | apply below3 | apply below4⟩
   obtain rfl : occ = [] := List.eq_nil_of_length_eq_zero (by omega)
   have HKN := LH (show 0 < kn from by omega)
   clear ho1
   have HN := LH (show ownN 12 [] [] n ⟨l1, l2, l3⟩ ⟨r1, r2, r3⟩ [] kn = true from by
    have h1 := HNN.out; have h2 := HKN.out
    obtain rfl : n = 0 := by omega
    unfold ownN; simp [HE1.out, HE2.out, h2])
   go_enter Tryd.func35, Tryd.ntmps35
   go_wp2
   go_loop [124] (fun iv => iv = .int .i64 0) (fun _ => 0)
   case atStart => exact rfl
   case round =>
    subst hrel
    go_wp2
    go_ret
    exact ⟨ret_bool HN.out.symm, by first | apply below2 | apply below4⟩
end Go.Proofs.YthcldpminmhgkaaDoor
end
