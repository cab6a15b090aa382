/- Merged for a claim by shake.py: Jh -/
import Derived.Test.YthcldpminmhgkaaDoorKrA
import Derived.Test.YthcldpminmhgkaaDoorKr12
set_option maxRecDepth 100000
set_option maxHeartbeats 4000000
set_option linter.unusedSimpArgs false
set_option linter.unusedVariables false
section
namespace Go.Proofs.YthcldpminmhgkaaDoor
open Go.RowKit
theorem occ_isE (l : List Int) : l.isEmpty = decide (l.length = 0) := by cases l <;> simp
def RlfOk (kind : Int) : Prop := ∀ (n : Int) (field text : List UInt8) (lo hi : Bd) (occ : List Int) (oa ka : Option Addr) (oc kn kc : Nat) (w : World), text.length ≤ 900000000000 →
 Calls Tryd.prog 50 #[.agg #[.int .i64 kind, .string (str field), .string (str text), .int .i64 n, .bool lo.open_, .bool lo.in_, .string (str lo.text), .bool hi.open_, .bool hi.in_, .string (str hi.text), .slice oa occ.length oc, .slice ka kn kc]] w (BoolRet (ownN kind field text n lo hi occ kn) w)
theorem below5 (w : World) (o p q r s : Obj) : Below w.heap.size w (((((w.alloc o).alloc p).alloc q).alloc r).alloc s) := (below4 w o p q r).alloc (by rw [World.size_alloc, World.size_alloc, World.size_alloc, World.size_alloc]; omega) _
theorem below6 (w : World) (o p q r s t : Obj) : Below w.heap.size w ((((((w.alloc o).alloc p).alloc q).alloc r).alloc s).alloc t) := (below5 w o p q r s).alloc (by rw [World.size_alloc, World.size_alloc, World.size_alloc, World.size_alloc, World.size_alloc]; omega) _
theorem rlf_1 : RlfOk 1 := by
 intro n field text lo hi occ oa ka oc kn kc w ht
 obtain ⟨l1, l2, l3⟩ := lo; obtain ⟨r1, r2, r3⟩ := hi
 have HB := LH (fun (W : World) => (show Calls Tryd.prog 71 #[.agg #[.int .i64 1, .string ⟨#[]⟩, .string ⟨#[]⟩, .int .i64 n, .bool l1, .bool l2, .string (str l3), .bool r1, .bool r2, .string (str r3), .slice oa occ.length oc, .slice ka kn kc]] W (fun e w' => e = .returned (.bool (bareB [] [] n ⟨l1, l2, l3⟩ ⟨r1, r2, r3⟩ occ.length kn)) ∧ ((W.alloc (.cells #[.int .i64 1, .string ⟨#[]⟩, .string ⟨#[]⟩, .int .i64 n, .bool l1, .bool l2, .string (str l3), .bool r1, .bool r2, .string (str r3), .slice oa occ.length oc, .slice ka kn kc] 27)).alloc (.cells #[.bool false, .bool false, .string ⟨#[]⟩] 23)) = w') from bare_any 1 n [] [] ⟨l1, l2, l3⟩ ⟨r1, r2, r3⟩ oa ka occ.length oc kn kc W))
 generalize hb : bareB [] [] n ⟨l1, l2, l3⟩ ⟨r1, r2, r3⟩ occ.length kn = b at *
 have HQ := LH (show ownN 1 field text n ⟨l1, l2, l3⟩ ⟨r1, r2, r3⟩ occ kn = (b && !text.isEmpty) from by
  rw [← hb, Bool.eq_iff_iff]
  unfold ownN bareB
  simp [occ_isE, bd0_nil, and_assoc, and_comm, and_left_comm])
 clear hb
 clear ht
 simp only []
 cases b with
 | false =>
  go_enter Tryd.func50, Tryd.ntmps50
  go_wp2_with (first | ((with_reducible refine (HB.out _).mono ?_); rintro e w2 ⟨rfl, rfl⟩))
  go_ret
  exact ⟨ret_bool (by rw [HQ.out]; rfl), by first | apply below2 | apply below3 | apply below4 | apply below5 | apply below6⟩
 | true =>
  by_cases hx : text = []
  ·subst hx
   have hse : (str []).toList = [] := str_toList []; have hse2 : (str []).toList.isEmpty = true := by rw [str_toList]; rfl
   go_enter Tryd.func50, Tryd.ntmps50
   go_wp2_with (first | ((with_reducible refine (HB.out _).mono ?_); rintro e w2 ⟨rfl, rfl⟩))
   go_ret
   exact ⟨ret_bool (by rw [HQ.out]; rfl), by first | apply below2 | apply below3 | apply below4 | apply below5 | apply below6⟩
  ·have hx1 : (str text).toList.isEmpty = false := by rw [str_toList]; cases text; exact absurd rfl hx; rfl
   have hx2 : ¬ (str text).toList = [] := by rw [str_toList]; exact hx
   have HX := LH (show text.isEmpty = false from by cases text; exact absurd rfl hx; rfl)
   clear hx
   go_enter Tryd.func50, Tryd.ntmps50
   go_wp2_with (first | ((with_reducible refine (HB.out _).mono ?_); rintro e w2 ⟨rfl, rfl⟩))
   go_ret
   exact ⟨ret_bool (by rw [HQ.out]; rw [HX.out]; rfl), by first | apply below2 | apply below3 | apply below4 | apply below5 | apply below6⟩
theorem rlf_2 : RlfOk 2 := by
 intro n field text lo hi occ oa ka oc kn kc w ht
 obtain ⟨l1, l2, l3⟩ := lo; obtain ⟨r1, r2, r3⟩ := hi
 have HB := LH (fun (W : World) => (show Calls Tryd.prog 71 #[.agg #[.int .i64 2, .string ⟨#[]⟩, .string ⟨#[]⟩, .int .i64 0, .bool l1, .bool l2, .string (str l3), .bool r1, .bool r2, .string (str r3), .slice oa occ.length oc, .slice ka kn kc]] W (fun e w' => e = .returned (.bool (bareB [] [] 0 ⟨l1, l2, l3⟩ ⟨r1, r2, r3⟩ occ.length kn)) ∧ ((W.alloc (.cells #[.int .i64 2, .string ⟨#[]⟩, .string ⟨#[]⟩, .int .i64 0, .bool l1, .bool l2, .string (str l3), .bool r1, .bool r2, .string (str r3), .slice oa occ.length oc, .slice ka kn kc] 27)).alloc (.cells #[.bool false, .bool false, .string ⟨#[]⟩] 23)) = w') from bare_any 2 0 [] [] ⟨l1, l2, l3⟩ ⟨r1, r2, r3⟩ oa ka occ.length oc kn kc W))
 generalize hb : bareB [] [] 0 ⟨l1, l2, l3⟩ ⟨r1, r2, r3⟩ occ.length kn = b at *
 have HQ := LH (show ownN 2 field text n ⟨l1, l2, l3⟩ ⟨r1, r2, r3⟩ occ kn = (b && numB n) from by
  rw [← hb, Bool.eq_iff_iff]
  unfold ownN bareB
  simp [occ_isE, bd0_nil, and_assoc, and_comm, and_left_comm])
 clear hb
 have HNM := LH (fun (W : World) => rnum_any n W)
 generalize numB n = b2 at *
 clear ht
 simp only []
 cases b with
 | false =>
  go_enter Tryd.func50, Tryd.ntmps50
  go_wp2_with (first | ((with_reducible refine (HB.out _).mono ?_); rintro e w2 ⟨rfl, rfl⟩) | ((with_reducible refine (HNM.out _).mono ?_); rintro e w2 ⟨rfl, rfl⟩))
  go_ret
  exact ⟨ret_bool (by rw [HQ.out]; rfl), by first | apply below2 | apply below3 | apply below4 | apply below5 | apply below6⟩
 | true =>
  cases b2 with
  | false =>
   go_enter Tryd.func50, Tryd.ntmps50
   go_wp2_with (first | ((with_reducible refine (HB.out _).mono ?_); rintro e w2 ⟨rfl, rfl⟩) | ((with_reducible refine (HNM.out _).mono ?_); rintro e w2 ⟨rfl, rfl⟩))
   go_ret
   exact ⟨ret_bool (by rw [HQ.out]; rfl), by first | apply below2 | apply below3 | apply below4 | apply below5 | apply below6⟩
  | true =>
   go_enter Tryd.func50, Tryd.ntmps50
   go_wp2_with (first | ((with_reducible refine (HB.out _).mono ?_); rintro e w2 ⟨rfl, rfl⟩) | ((with_reducible refine (HNM.out _).mono ?_); rintro e w2 ⟨rfl, rfl⟩))
   go_ret
   exact ⟨ret_bool (by rw [HQ.out]; rfl), by first | apply below2 | apply below3 | apply below4 | apply below5 | apply below6⟩
theorem rlf_3 : RlfOk 3 := by
 intro n field text lo hi occ oa ka oc kn kc w ht
 obtain ⟨l1, l2, l3⟩ := lo; obtain ⟨r1, r2, r3⟩ := hi
 have HB := LH (fun (W : World) => (show Calls Tryd.prog 71 #[.agg #[.int .i64 3, .string ⟨#[]⟩, .string ⟨#[]⟩, .int .i64 n, .bool l1, .bool l2, .string (str l3), .bool r1, .bool r2, .string (str r3), .slice oa occ.length oc, .slice ka kn kc]] W (fun e w' => e = .returned (.bool (bareB [] [] n ⟨l1, l2, l3⟩ ⟨r1, r2, r3⟩ occ.length kn)) ∧ ((W.alloc (.cells #[.int .i64 3, .string ⟨#[]⟩, .string ⟨#[]⟩, .int .i64 n, .bool l1, .bool l2, .string (str l3), .bool r1, .bool r2, .string (str r3), .slice oa occ.length oc, .slice ka kn kc] 27)).alloc (.cells #[.bool false, .bool false, .string ⟨#[]⟩] 23)) = w') from bare_any 3 n [] [] ⟨l1, l2, l3⟩ ⟨r1, r2, r3⟩ oa ka occ.length oc kn kc W))
 generalize hb : bareB [] [] n ⟨l1, l2, l3⟩ ⟨r1, r2, r3⟩ occ.length kn = b at *
 have HQ := LH (show ownN 3 field text n ⟨l1, l2, l3⟩ ⟨r1, r2, r3⟩ occ kn = (b && !text.isEmpty) from by
  rw [← hb, Bool.eq_iff_iff]
  unfold ownN bareB
  simp [occ_isE, bd0_nil, and_assoc, and_comm, and_left_comm])
 clear hb
 clear ht
 simp only []
 cases b with
 | false =>
  go_enter Tryd.func50, Tryd.ntmps50
  go_wp2_with (first | ((with_reducible refine (HB.out _).mono ?_); rintro e w2 ⟨rfl, rfl⟩))
  go_ret
  exact ⟨ret_bool (by rw [HQ.out]; rfl), by first | apply below2 | apply below3 | apply below4 | apply below5 | apply below6⟩
 | true =>
  by_cases hx : text = []
  ·subst hx
   have hse : (str []).toList = [] := str_toList []; have hse2 : (str []).toList.isEmpty = true := by rw [str_toList]; rfl
   go_enter Tryd.func50, Tryd.ntmps50
   go_wp2_with (first | ((with_reducible refine (HB.out _).mono ?_); rintro e w2 ⟨rfl, rfl⟩))
   go_ret
   exact ⟨ret_bool (by rw [HQ.out]; rfl), by first | apply below2 | apply below3 | apply below4 | apply below5 | apply below6⟩
  ·have hx1 : (str text).toList.isEmpty = false := by rw [str_toList]; cases text; exact absurd rfl hx; rfl
   have hx2 : ¬ (str text).toList = [] := by rw [str_toList]; exact hx
   have HX := LH (show text.isEmpty = false from by cases text; exact absurd rfl hx; rfl)
   clear hx
   go_enter Tryd.func50, Tryd.ntmps50
   go_wp2_with (first | ((with_reducible refine (HB.out _).mono ?_); rintro e w2 ⟨rfl, rfl⟩))
   go_ret
   exact ⟨ret_bool (by rw [HQ.out]; rw [HX.out]; rfl), by first | apply below2 | apply below3 | apply below4 | apply below5 | apply below6⟩
theorem rlf_4 : RlfOk 4 := by
 intro n field text lo hi occ oa ka oc kn kc w ht
 obtain ⟨l1, l2, l3⟩ := lo; obtain ⟨r1, r2, r3⟩ := hi
 have HB := LH (fun (W : World) => (show Calls Tryd.prog 71 #[.agg #[.int .i64 4, .string ⟨#[]⟩, .string ⟨#[]⟩, .int .i64 n, .bool l1, .bool l2, .string (str l3), .bool r1, .bool r2, .string (str r3), .slice oa occ.length oc, .slice ka kn kc]] W (fun e w' => e = .returned (.bool (bareB [] [] n ⟨l1, l2, l3⟩ ⟨r1, r2, r3⟩ occ.length kn)) ∧ ((W.alloc (.cells #[.int .i64 4, .string ⟨#[]⟩, .string ⟨#[]⟩, .int .i64 n, .bool l1, .bool l2, .string (str l3), .bool r1, .bool r2, .string (str r3), .slice oa occ.length oc, .slice ka kn kc] 27)).alloc (.cells #[.bool false, .bool false, .string ⟨#[]⟩] 23)) = w') from bare_any 4 n [] [] ⟨l1, l2, l3⟩ ⟨r1, r2, r3⟩ oa ka occ.length oc kn kc W))
 generalize hb : bareB [] [] n ⟨l1, l2, l3⟩ ⟨r1, r2, r3⟩ occ.length kn = b at *
 have HQ := LH (show ownN 4 field text n ⟨l1, l2, l3⟩ ⟨r1, r2, r3⟩ occ kn = (b && wildB text) from by
  rw [← hb, Bool.eq_iff_iff]
  unfold ownN bareB
  simp [occ_isE, bd0_nil, and_assoc, and_comm, and_left_comm])
 clear hb
 have HWL := LH (fun (W : World) => (show Calls Tryd.prog 73 #[.string (str text)] W (fun e w' => e = .returned (.bool (wildB text)) ∧ W = w') from by have h := rwild_any (str text) W (by rw [ba_size]; exact ht); rw [show (str text).data.toList = text from rfl, wild_same] at h; exact h))
 generalize wildB text = b2 at *
 clear ht
 simp only []
 cases b with
 | false =>
  go_enter Tryd.func50, Tryd.ntmps50
  go_wp2_with (first | ((with_reducible refine (HB.out _).mono ?_); rintro e w2 ⟨rfl, rfl⟩) | ((with_reducible refine (HWL.out _).mono ?_); rintro e w2 ⟨rfl, rfl⟩))
  go_ret
  exact ⟨ret_bool (by rw [HQ.out]; rfl), by first | apply below2 | apply below3 | apply below4 | apply below5 | apply below6⟩
 | true =>
  cases b2 with
  | false =>
   go_enter Tryd.func50, Tryd.ntmps50
   go_wp2_with (first | ((with_reducible refine (HB.out _).mono ?_); rintro e w2 ⟨rfl, rfl⟩) | ((with_reducible refine (HWL.out _).mono ?_); rintro e w2 ⟨rfl, rfl⟩))
   go_ret
   exact ⟨ret_bool (by rw [HQ.out]; rfl), by first | apply below2 | apply below3 | apply below4 | apply below5 | apply below6⟩
  | true =>
   go_enter Tryd.func50, Tryd.ntmps50
   go_wp2_with (first | ((with_reducible refine (HB.out _).mono ?_); rintro e w2 ⟨rfl, rfl⟩) | ((with_reducible refine (HWL.out _).mono ?_); rintro e w2 ⟨rfl, rfl⟩))
   go_ret
   exact ⟨ret_bool (by rw [HQ.out]; rfl), by first | apply below2 | apply below3 | apply below4 | apply below5 | apply below6⟩
theorem rlf_5 : RlfOk 5 := by
 intro n field text lo hi occ oa ka oc kn kc w ht
 obtain ⟨l1, l2, l3⟩ := lo; obtain ⟨r1, r2, r3⟩ := hi
 have HB := LH (fun (W : World) => (show Calls Tryd.prog 71 #[.agg #[.int .i64 5, .string ⟨#[]⟩, .string ⟨#[]⟩, .int .i64 0, .bool l1, .bool l2, .string (str l3), .bool r1, .bool r2, .string (str r3), .slice oa occ.length oc, .slice ka kn kc]] W (fun e w' => e = .returned (.bool (bareB [] [] 0 ⟨l1, l2, l3⟩ ⟨r1, r2, r3⟩ occ.length kn)) ∧ ((W.alloc (.cells #[.int .i64 5, .string ⟨#[]⟩, .string ⟨#[]⟩, .int .i64 0, .bool l1, .bool l2, .string (str l3), .bool r1, .bool r2, .string (str r3), .slice oa occ.length oc, .slice ka kn kc] 27)).alloc (.cells #[.bool false, .bool false, .string ⟨#[]⟩] 23)) = w') from bare_any 5 0 [] [] ⟨l1, l2, l3⟩ ⟨r1, r2, r3⟩ oa ka occ.length oc kn kc W))
 generalize hb : bareB [] [] 0 ⟨l1, l2, l3⟩ ⟨r1, r2, r3⟩ occ.length kn = b at *
 have HQ := LH (show ownN 5 field text n ⟨l1, l2, l3⟩ ⟨r1, r2, r3⟩ occ kn = (b && (!text.isEmpty && (decide (n = 1) || decide (n = 2)))) from by
  rw [← hb, Bool.eq_iff_iff]
  unfold ownN bareB
  simp [occ_isE, bd0_nil, and_assoc, and_comm, and_left_comm])
 clear hb
 clear ht
 simp only []
 cases b with
 | false =>
  go_enter Tryd.func50, Tryd.ntmps50
  go_wp2_with (first | ((with_reducible refine (HB.out _).mono ?_); rintro e w2 ⟨rfl, rfl⟩))
  go_ret
  exact ⟨ret_bool (by rw [HQ.out]; rfl), by first | apply below2 | apply below3 | apply below4 | apply below5 | apply below6⟩
 | true =>
  by_cases hx : text = []
  ·subst hx
   have hse : (str []).toList = [] := str_toList []; have hse2 : (str []).toList.isEmpty = true := by rw [str_toList]; rfl
   go_enter Tryd.func50, Tryd.ntmps50
   go_wp2_with (first | ((with_reducible refine (HB.out _).mono ?_); rintro e w2 ⟨rfl, rfl⟩))
   go_ret
   exact ⟨ret_bool (by rw [HQ.out]; rfl), by first | apply below2 | apply below3 | apply below4 | apply below5 | apply below6⟩
  ·have hx1 : (str text).toList.isEmpty = false := by rw [str_toList]; cases text; exact absurd rfl hx; rfl
   have hx2 : ¬ (str text).toList = [] := by rw [str_toList]; exact hx
   have HX := LH (show text.isEmpty = false from by cases text; exact absurd rfl hx; rfl)
   clear hx
   by_cases h1 : n = 1
   ·subst h1
    go_enter Tryd.func50, Tryd.ntmps50
    go_wp2_with (first | ((with_reducible refine (HB.out _).mono ?_); rintro e w2 ⟨rfl, rfl⟩))
    go_ret
    exact ⟨ret_bool (by rw [HQ.out]; rw [HX.out]; rfl), by first | apply below2 | apply below3 | apply below4 | apply below5 | apply below6⟩
   ·have h2 : (n == 1) = false := by rw [beq_eq_false_iff_ne]; exact h1
    have H1 := LH h1; clear h1
    by_cases h3 : n = 2
    ·subst h3
     go_enter Tryd.func50, Tryd.ntmps50
     go_wp2_with (first | ((with_reducible refine (HB.out _).mono ?_); rintro e w2 ⟨rfl, rfl⟩))
     go_ret
     exact ⟨ret_bool (by rw [HQ.out]; rw [HX.out]; rfl), by first | apply below2 | apply below3 | apply below4 | apply below5 | apply below6⟩
    ·have h4 : (n == 2) = false := by rw [beq_eq_false_iff_ne]; exact h3
     have H3 := LH h3; clear h3
     go_enter Tryd.func50, Tryd.ntmps50
     go_wp2_with (first | ((with_reducible refine (HB.out _).mono ?_); rintro e w2 ⟨rfl, rfl⟩))
     go_ret
     exact ⟨ret_bool (by rw [HQ.out]; rw [HX.out, decide_eq_false H1.out, decide_eq_false H3.out]; rfl), by first | apply below2 | apply below3 | apply below4 | apply below5 | apply below6⟩
theorem rlf_6 : RlfOk 6 := by
 intro n field text lo hi occ oa ka oc kn kc w ht
 obtain ⟨l1, l2, l3⟩ := lo; obtain ⟨r1, r2, r3⟩ := hi
 have HB := LH (fun (W : World) => (show Calls Tryd.prog 71 #[.agg #[.int .i64 6, .string ⟨#[]⟩, .string (str text), .int .i64 n, .bool false, .bool false, .string ⟨#[]⟩, .bool false, .bool false, .string ⟨#[]⟩, .slice oa occ.length oc, .slice ka kn kc]] W (fun e w' => e = .returned (.bool (bareB [] text n bd0 bd0 occ.length kn)) ∧ ((W.alloc (.cells #[.int .i64 6, .string ⟨#[]⟩, .string (str text), .int .i64 n, .bool false, .bool false, .string ⟨#[]⟩, .bool false, .bool false, .string ⟨#[]⟩, .slice oa occ.length oc, .slice ka kn kc] 27)).alloc (.cells #[.bool false, .bool false, .string ⟨#[]⟩] 23)) = w') from bare_any 6 n [] text bd0 bd0 oa ka occ.length oc kn kc W))
 generalize hb : bareB [] text n bd0 bd0 occ.length kn = b at *
 have HQ := LH (show ownN 6 field text n ⟨l1, l2, l3⟩ ⟨r1, r2, r3⟩ occ kn = (b && (Bd.ok ⟨l1, l2, l3⟩ && Bd.ok ⟨r1, r2, r3⟩)) from by
  rw [← hb, Bool.eq_iff_iff]
  unfold ownN bareB
  simp [occ_isE, bd0_nil, and_assoc, and_comm, and_left_comm])
 clear hb
 have HE1 := LH (fun (W : World) => rend_any ⟨l1, l2, l3⟩ W); have HE2 := LH (fun (W : World) => rend_any ⟨r1, r2, r3⟩ W)
 generalize Bd.ok ⟨l1, l2, l3⟩ = b2 at *
 generalize Bd.ok ⟨r1, r2, r3⟩ = b3 at *
 clear ht
 simp only []
 cases b with
 | false =>
  go_enter Tryd.func50, Tryd.ntmps50
  go_wp2_with (first | ((with_reducible refine (HB.out _).mono ?_); rintro e w2 ⟨rfl, rfl⟩) | ((with_reducible refine (HE1.out _).mono ?_); rintro e w2 ⟨rfl, rfl⟩) | ((with_reducible refine (HE2.out _).mono ?_); rintro e w2 ⟨rfl, rfl⟩))
  go_ret
  exact ⟨ret_bool (by rw [HQ.out]; rfl), by first | apply below2 | apply below3 | apply below4 | apply below5 | apply below6⟩
 | true =>
  cases b2 with
  | false =>
   go_enter Tryd.func50, Tryd.ntmps50
   go_wp2_with (first | ((with_reducible refine (HB.out _).mono ?_); rintro e w2 ⟨rfl, rfl⟩) | ((with_reducible refine (HE1.out _).mono ?_); rintro e w2 ⟨rfl, rfl⟩) | ((with_reducible refine (HE2.out _).mono ?_); rintro e w2 ⟨rfl, rfl⟩))
   go_ret
   exact ⟨ret_bool (by rw [HQ.out]; rfl), by first | apply below2 | apply below3 | apply below4 | apply below5 | apply below6⟩
  | true =>
   cases b3 with
   | false =>
    go_enter Tryd.func50, Tryd.ntmps50
    go_wp2_with (first | ((with_reducible refine (HB.out _).mono ?_); rintro e w2 ⟨rfl, rfl⟩) | ((with_reducible refine (HE1.out _).mono ?_); rintro e w2 ⟨rfl, rfl⟩) | ((with_reducible refine (HE2.out _).mono ?_); rintro e w2 ⟨rfl, rfl⟩))
    go_ret
    exact ⟨ret_bool (by rw [HQ.out]; rfl), by first | apply below2 | apply below3 | apply below4 | apply below5 | apply below6⟩
   | true =>
    go_enter Tryd.func50, Tryd.ntmps50
    go_wp2_with (first | ((with_reducible refine (HB.out _).mono ?_); rintro e w2 ⟨rfl, rfl⟩) | ((with_reducible refine (HE1.out _).mono ?_); rintro e w2 ⟨rfl, rfl⟩) | ((with_reducible refine (HE2.out _).mono ?_); rintro e w2 ⟨rfl, rfl⟩))
    go_ret
    exact ⟨ret_bool (by rw [HQ.out]; rfl), by first | apply below2 | apply below3 | apply below4 | apply below5 | apply below6⟩
theorem rlf_7 : RlfOk 7 := by
 intro n field text lo hi occ oa ka oc kn kc w ht
 obtain ⟨l1, l2, l3⟩ := lo; obtain ⟨r1, r2, r3⟩ := hi
 have HB := LH (fun (W : World) => (show Calls Tryd.prog 71 #[.agg #[.int .i64 7, .string ⟨#[]⟩, .string (str text), .int .i64 n, .bool l1, .bool l2, .string (str l3), .bool r1, .bool r2, .string (str r3), .slice oa occ.length oc, .slice ka kn kc]] W (fun e w' => e = .returned (.bool (bareB [] text n ⟨l1, l2, l3⟩ ⟨r1, r2, r3⟩ occ.length kn)) ∧ ((W.alloc (.cells #[.int .i64 7, .string ⟨#[]⟩, .string (str text), .int .i64 n, .bool l1, .bool l2, .string (str l3), .bool r1, .bool r2, .string (str r3), .slice oa occ.length oc, .slice ka kn kc] 27)).alloc (.cells #[.bool false, .bool false, .string ⟨#[]⟩] 23)) = w') from bare_any 7 n [] text ⟨l1, l2, l3⟩ ⟨r1, r2, r3⟩ oa ka occ.length oc kn kc W))
 generalize hb : bareB [] text n ⟨l1, l2, l3⟩ ⟨r1, r2, r3⟩ occ.length kn = b at *
 have HQ := LH (show ownN 7 field text n ⟨l1, l2, l3⟩ ⟨r1, r2, r3⟩ occ kn = (b && true) from by
  rw [← hb, Bool.eq_iff_iff]
  unfold ownN bareB
  simp [occ_isE, bd0_nil, and_assoc, and_comm, and_left_comm])
 clear hb
 clear ht
 simp only []
 cases b with
 | false =>
  go_enter Tryd.func50, Tryd.ntmps50
  go_wp2_with (first | ((with_reducible refine (HB.out _).mono ?_); rintro e w2 ⟨rfl, rfl⟩))
  go_ret
  exact ⟨ret_bool (by rw [HQ.out]; rfl), by first | apply below2 | apply below3 | apply below4 | apply below5 | apply below6⟩
 | true =>
  go_enter Tryd.func50, Tryd.ntmps50
  go_wp2_with (first | ((with_reducible refine (HB.out _).mono ?_); rintro e w2 ⟨rfl, rfl⟩))
  go_ret
  exact ⟨ret_bool (by rw [HQ.out]; rfl), by first | apply below2 | apply below3 | apply below4 | apply below5 | apply below6⟩
theorem rlf_8 : RlfOk 8 := by
 intro n field text lo hi occ oa ka oc kn kc w ht
 obtain ⟨l1, l2, l3⟩ := lo; obtain ⟨r1, r2, r3⟩ := hi
 have HB := LH (fun (W : World) => (show Calls Tryd.prog 71 #[.agg #[.int .i64 8, .string (str field), .string (str text), .int .i64 n, .bool l1, .bool l2, .string (str l3), .bool r1, .bool r2, .string (str r3), .slice oa occ.length oc, .slice ka kn kc]] W (fun e w' => e = .returned (.bool (bareB field text n ⟨l1, l2, l3⟩ ⟨r1, r2, r3⟩ occ.length kn)) ∧ ((W.alloc (.cells #[.int .i64 8, .string (str field), .string (str text), .int .i64 n, .bool l1, .bool l2, .string (str l3), .bool r1, .bool r2, .string (str r3), .slice oa occ.length oc, .slice ka kn kc] 27)).alloc (.cells #[.bool false, .bool false, .string ⟨#[]⟩] 23)) = w') from bare_any 8 n field text ⟨l1, l2, l3⟩ ⟨r1, r2, r3⟩ oa ka occ.length oc kn kc W))
 generalize hb : bareB field text n ⟨l1, l2, l3⟩ ⟨r1, r2, r3⟩ occ.length kn = b at *
 have HQ := LH (show ownN 8 field text n ⟨l1, l2, l3⟩ ⟨r1, r2, r3⟩ occ kn = (b && true) from by
  rw [← hb, Bool.eq_iff_iff]
  unfold ownN bareB
  simp [occ_isE, bd0_nil, and_assoc, and_comm, and_left_comm])
 clear hb
 clear ht
 simp only []
 cases b with
 | false =>
  go_enter Tryd.func50, Tryd.ntmps50
  go_wp2_with (first | ((with_reducible refine (HB.out _).mono ?_); rintro e w2 ⟨rfl, rfl⟩))
  go_ret
  exact ⟨ret_bool (by rw [HQ.out]; rfl), by first | apply below2 | apply below3 | apply below4 | apply below5 | apply below6⟩
 | true =>
  go_enter Tryd.func50, Tryd.ntmps50
  go_wp2_with (first | ((with_reducible refine (HB.out _).mono ?_); rintro e w2 ⟨rfl, rfl⟩))
  go_ret
  exact ⟨ret_bool (by rw [HQ.out]; rfl), by first | apply below2 | apply below3 | apply below4 | apply below5 | apply below6⟩
theorem rlf_out {kind : Int} (h : kind < 1) : RlfOk kind := by
 intro n field text lo hi occ oa ka oc kn kc w ht
 have HN := LH (show ownN kind field text n lo hi occ kn = false from by
  unfold ownN
  rw [if_neg (by omega), if_neg (by omega), if_neg (by omega), if_neg (by omega), if_neg (by omega), if_neg (by omega), if_neg (by omega), if_neg (by omega), if_neg (by omega), if_neg (by omega), if_neg (by omega)])
 have k1 : (kind == 1) = false := by rw [beq_eq_false_iff_ne]; omega
 have k2 : (kind == 2) = false := by rw [beq_eq_false_iff_ne]; omega
 have k3 : (kind == 3) = false := by rw [beq_eq_false_iff_ne]; omega
 have k4 : (kind == 4) = false := by rw [beq_eq_false_iff_ne]; omega
 have k5 : (kind == 5) = false := by rw [beq_eq_false_iff_ne]; omega
 have k6 : (kind == 6) = false := by rw [beq_eq_false_iff_ne]; omega
 have k7 : (kind == 7) = false := by rw [beq_eq_false_iff_ne]; omega
 have k8 : (kind == 8) = false := by rw [beq_eq_false_iff_ne]; omega
 clear h ht
 go_enter Tryd.func50, Tryd.ntmps50
 go_wp2
 go_ret
 exact ⟨ret_bool HN.out.symm, below2 _ _ _⟩
theorem rleaf_any {kind : Int} (h : kind < 9) : RlfOk kind := by
 by_cases h1 : kind < 1
 ·exact rlf_out h1
 ·have h2 : kind = 1 ∨ kind = 2 ∨ kind = 3 ∨ kind = 4 ∨ kind = 5 ∨ kind = 6 ∨ kind = 7 ∨ kind = 8 := by omega
  rcases h2 with rfl | rfl | rfl | rfl | rfl | rfl | rfl | rfl
  ·exact rlf_1
  ·exact rlf_2
  ·exact rlf_3
  ·exact rlf_4
  ·exact rlf_5
  ·exact rlf_6
  ·exact rlf_7
  ·exact rlf_8
end Go.Proofs.YthcldpminmhgkaaDoor
end
