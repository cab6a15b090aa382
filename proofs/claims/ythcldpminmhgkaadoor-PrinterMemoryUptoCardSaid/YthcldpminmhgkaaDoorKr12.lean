/- Merged for a claim by shake.py: Je Je1 -/
import Derived.Test.YthcldpminmhgkaaDoorKrA
import Derived.Test.YthcldpminmhgkaaDoorKr11
set_option maxRecDepth 100000
set_option maxHeartbeats 4000000
set_option linter.unusedSimpArgs false
set_option linter.unusedVariables false
section
namespace Go.Proofs.YthcldpminmhgkaaDoor
open Go.RowKit
def askL : List Value := [
 .bool false, .bool false, .int .i64 0, .int .i64 0, .bool false, .bool false, .int .i64 0, .int .i64 0, .int .i64 0, .string ⟨#[]⟩,
 .bool true, .bool true, .int .i64 0, .int .i64 0, .bool false, .bool false, .int .i64 0, .int .i64 0, .int .i64 6, .string ⟨#[]⟩,
 .bool true, .bool true, .int .i64 0, .int .i64 999999999, .bool false, .bool false, .int .i64 0, .int .i64 0, .int .i64 6, .string ⟨#[]⟩,
 .bool true, .bool true, .int .i64 0, .int .i64 0, .bool false, .bool false, .int .i64 0, .int .i64 0, .int .i64 6, .string ⟨#[]⟩,
 .bool true, .bool true, .int .i64 0, .int .i64 0, .bool false, .bool false, .int .i64 0, .int .i64 0, .int .i64 6, .string ⟨#[]⟩,
 .bool true, .bool true, .int .i64 1, .int .i64 2, .bool false, .bool false, .int .i64 0, .int .i64 0, .int .i64 6, .string ⟨#[]⟩,
 .bool true, .bool false, .int .i64 0, .int .i64 0, .bool true, .bool false, .int .i64 0, .int .i64 0, .int .i64 6, .string ⟨#[]⟩,
 .bool true, .bool false, .int .i64 0, .int .i64 0, .bool false, .bool false, .int .i64 0, .int .i64 0, .int .i64 6, .string ⟨#[]⟩,
 .bool false, .bool false, .int .i64 0, .int .i64 0, .bool false, .bool false, .int .i64 0, .int .i64 0, .int .i64 6, .string ⟨#[]⟩,
 .bool false, .bool false, .int .i64 0, .int .i64 999999999, .bool false, .bool true, .int .i64 1, .int .i64 (-1), .int .i64 0, .string ⟨#[]⟩,
 .bool false, .bool false, .int .i64 0, .int .i64 0, .bool false, .bool false, .int .i64 1, .int .i64 (-1), .int .i64 2, .string ⟨#[32, 65, 78, 68, 32]⟩,
 .bool false, .bool false, .int .i64 0, .int .i64 0, .bool false, .bool false, .int .i64 1, .int .i64 (-1), .int .i64 1, .string ⟨#[32, 79, 82, 32]⟩,
 .bool false, .bool false, .int .i64 0, .int .i64 0, .bool false, .bool false, .int .i64 1, .int .i64 (-1), .int .i64 3, .string ⟨#[32, 124, 32]⟩,
 .bool false, .bool false, .int .i64 0, .int .i64 0, .bool false, .bool false, .int .i64 1, .int .i64 1, .int .i64 4, .string ⟨#[]⟩,
 .bool false, .bool false, .int .i64 0, .int .i64 999999999, .bool false, .bool false, .int .i64 1, .int .i64 1, .int .i64 5, .string ⟨#[94]⟩,
 .bool false, .bool false, .int .i64 0, .int .i64 999999999, .bool false, .bool false, .int .i64 1, .int .i64 1, .int .i64 5, .string ⟨#[94, 61]⟩]
def AskEnv (w : World) : Prop := (∀ j v, askL[j]? = some v → w.cell? ⟨17, j, none⟩ = some v) ∧ 17 < w.heap.size
theorem AskEnv.below {w w' : World} (h : AskEnv w) (hb : Below w.heap.size w w') : AskEnv w' :=
 ⟨fun j v hv => (hb.cell (p := ⟨17, j, none⟩) h.2).trans (h.1 j v hv), Nat.lt_of_lt_of_le h.2 hb.size⟩
theorem occ_bad {l : List Int} {k : Nat} (h : k < l.length) (hb : ¬ (0 ≤ l[k] ∧ l[k] ≤ 2)) : occB l = false := by
 rw [Bool.eq_false_iff]
 intro h2
 unfold occB at h2
 rw [List.all_eq_true] at h2
 have := h2 _ (List.getElem_mem h)
 rw [Bool.and_eq_true, decide_eq_true_eq, decide_eq_true_eq] at this
 exact hb this
theorem occ_good {l : List Int} (h : ∀ (j : Nat) (x : Int), l[j]? = some x → 0 ≤ x ∧ x ≤ 2) : occB l = true := by
 unfold occB
 rw [List.all_eq_true]
 intro x hx
 obtain ⟨j, hj⟩ := List.getElem?_of_mem hx
 have := h j x hj
 rw [Bool.and_eq_true, decide_eq_true_eq, decide_eq_true_eq]; exact this
theorem occ_cell {w : World} {F : Nat → Prop} {A : Option Addr} {n c : Nat} {l : List Int} (h : RdF folS w F ⟨A, n, c⟩ l) {k : Nat} (hk : k < l.length) : ∃ a, A = some a ∧ w.cell? (a.add k) = some (.int .i64 l[k]) := by
 obtain ⟨h1, h2, h3, h4, h5⟩ := h
 obtain ⟨a, e, _, hc⟩ := h4 (by omega)
 have h6 := hc (k * folS.size + 0) (.int .i64 l[k]) (by rw [Shape.cells_get folOk l k 0 hk folOk.pos]; rfl)
 have e7 : k * folS.size + 0 = k := by show k * 1 + 0 = k; omega
 rw [e7] at h6
 exact ⟨a, e, h6⟩
def OwnOk (kind : Int) : Prop := ∀ (n : Int) (field text : List UInt8) (lo hi : Bd) (occ : List Int) (oa ka : Option Addr) (oc kn kc : Nat) (w : World) (F : Nat → Prop), AskEnv w → RdF folS w F ⟨oa, occ.length, oc⟩ occ → text.length ≤ 900000000000 →
 Calls Tryd.prog 35 #[.agg #[.int .i64 kind, .string (str field), .string (str text), .int .i64 n, .bool lo.open_, .bool lo.in_, .string (str lo.text), .bool hi.open_, .bool hi.in_, .string (str hi.text), .slice oa occ.length oc, .slice ka kn kc]] w (BoolRet (ownN kind field text n lo hi occ kn) w)
theorem below2 (w : World) (o p : Obj) : Below w.heap.size w ((w.alloc o).alloc p) := ((Below.refl _ _).alloc (Nat.le_refl _) _).alloc (by rw [World.size_alloc]; omega) _
theorem below4 (w : World) (o p q r : Obj) : Below w.heap.size w ((((w.alloc o).alloc p).alloc q).alloc r) := (((below2 w o p).alloc (by rw [World.size_alloc, World.size_alloc]; omega) _)).alloc (by rw [World.size_alloc, World.size_alloc, World.size_alloc]; omega) _
theorem below3 (w : World) (o p q : Obj) : Below w.heap.size w (((w.alloc o).alloc p).alloc q) := (below2 w o p).alloc (by rw [World.size_alloc, World.size_alloc]; omega) _
theorem own_out {kind : Int} (h : kind < 1 ∨ 15 < kind) : OwnOk kind := by
 intro n field text lo hi occ oa ka oc kn kc w F hA hO ht
 have HN := LH (show ownN kind field text n lo hi occ kn = false from by
  unfold ownN
  rw [if_neg (by omega), if_neg (by omega), if_neg (by omega), if_neg (by omega), if_neg (by omega), if_neg (by omega), if_neg (by omega), if_neg (by omega), if_neg (by omega), if_neg (by omega), if_neg (by omega)])
 clear hA hO
 rcases h with h | h
 ·have h2 : decide (kind < 1) = true := decide_eq_true h
  go_enter Tryd.func35, Tryd.ntmps35
  go_wp2
  go_ret
  exact ⟨ret_bool HN.out.symm, (Below.refl _ _).alloc (Nat.le_refl _) _⟩
 ·have h2 : decide (kind < 1) = false := decide_eq_false (by omega)
  have h3 : decide (15 < kind) = true := decide_eq_true h
  go_enter Tryd.func35, Tryd.ntmps35
  go_wp2
  go_ret
  exact ⟨ret_bool HN.out.symm, (Below.refl _ _).alloc (Nat.le_refl _) _⟩
theorem own_1 : OwnOk 1 := by
 intro n field text lo hi occ oa ka oc kn kc w F hA hO ht
 obtain ⟨l1, l2, l3⟩ := lo; obtain ⟨r1, r2, r3⟩ := hi
 have a0 : w.cell? ⟨17, 10, none⟩ = some (.bool true) := hA.1 10 _ rfl
 have a1 : w.cell? ⟨17, 11, none⟩ = some (.bool true) := hA.1 11 _ rfl
 have a2 : w.cell? ⟨17, 12, none⟩ = some (.int .i64 0) := hA.1 12 _ rfl
 have a3 : w.cell? ⟨17, 13, none⟩ = some (.int .i64 0) := hA.1 13 _ rfl
 have a4 : w.cell? ⟨17, 14, none⟩ = some (.bool false) := hA.1 14 _ rfl
 have a5 : w.cell? ⟨17, 15, none⟩ = some (.bool false) := hA.1 15 _ rfl
 have a6 : w.cell? ⟨17, 16, none⟩ = some (.int .i64 0) := hA.1 16 _ rfl
 have a7 : w.cell? ⟨17, 17, none⟩ = some (.int .i64 0) := hA.1 17 _ rfl
 have a8 : w.cell? ⟨17, 18, none⟩ = some (.int .i64 6) := hA.1 18 _ rfl
 have a9 : w.cell? ⟨17, 19, none⟩ = some (.string ⟨#[]⟩) := hA.1 19 _ rfl
 have hag := hA.2
 have honb : occ.length ≤ 9223372036854775807 := by have h : occ.length ≤ maxLen := Nat.le_trans hO.2.1 hO.2.2.1; unfold maxLen at h; omega
 have HO := LH hO; have HT := LH ht
 have q1 := fun W => bd_nez l1 l2 l3 W; have q2 := fun W => bd_nez r1 r2 r3 W
 have q3 := fun op x y u W => bd_grd l1 l2 (str l3) op x y u W; have q4 := fun op x y u W => bd_grd r1 r2 (str r3) op x y u W
 generalize hb1 : Bd.nil ⟨l1, l2, l3⟩ = b1 at *; generalize hb2 : Bd.nil ⟨r1, r2, r3⟩ = b2 at *
 have HE1 := LH hb1; have HE2 := LH hb2
 clear hb1 hb2 hA hO ht
 simp only []
 by_cases hn1 : n < 0
 case pos =>
  have hn3 : decide (n < 0) = true := decide_eq_true hn1
  have HN := LH (show ownN 1 field text n ⟨l1, l2, l3⟩ ⟨r1, r2, r3⟩ occ kn = false from by have hq : ¬ n = 0 := (by omega); unfold ownN; simp [hq])
  clear hn1
  go_enter Tryd.func35, Tryd.ntmps35
  go_wp2
  go_ret
  exact ⟨ret_bool HN.out.symm, by first | apply below2 | apply below3 | apply below4⟩
 have hn3 : decide (n < 0) = false := decide_eq_false hn1
 by_cases hn2 : 0 < n
 case pos =>
  have hn4 : decide (0 < n) = true := decide_eq_true hn2
  have HN := LH (show ownN 1 field text n ⟨l1, l2, l3⟩ ⟨r1, r2, r3⟩ occ kn = false from by have hq : ¬ n = 0 := (by omega); unfold ownN; simp [hq])
  clear hn1 hn2
  go_enter Tryd.func35, Tryd.ntmps35
  go_wp2
  go_ret
  exact ⟨ret_bool HN.out.symm, by first | apply below2 | apply below3 | apply below4⟩
 have hn4 : decide (0 < n) = false := decide_eq_false hn2
 have HNN := LH (show 0 ≤ n ∧ n ≤ 0 from by omega)
 clear hn1 hn2
 cases b1 with
 | false =>
  have HN := LH (show ownN 1 field text n ⟨l1, l2, l3⟩ ⟨r1, r2, r3⟩ occ kn = false from by unfold ownN; simp [HE1.out])
  go_enter Tryd.func35, Tryd.ntmps35
  go_wp2
  go_ret
  exact ⟨ret_bool HN.out.symm, by first | apply below2 | apply below3 | apply below4⟩
 | true =>
  cases b2 with
  | false =>
   have HN := LH (show ownN 1 field text n ⟨l1, l2, l3⟩ ⟨r1, r2, r3⟩ occ kn = false from by unfold ownN; simp [HE2.out])
   go_enter Tryd.func35, Tryd.ntmps35
   go_wp2
   go_ret
   exact ⟨ret_bool HN.out.symm, by first | apply below2 | apply below3 | apply below4⟩
  | true =>
   by_cases hk1 : kn = 0
   case neg =>
    have hk5 : 0 < kn := by omega
    have hk6 : 1 ≤ kn := by omega
    have hk7 : decide (0 < kn) = true := decide_eq_true (by omega)
    have hk8 : decide (kn < 1) = false := decide_eq_false (by omega)
    have hk9 : decide ((kn : Int) < 1) = false := decide_eq_false (by omega)
    have HN := LH (show ownN 1 field text n ⟨l1, l2, l3⟩ ⟨r1, r2, r3⟩ occ kn = false from by unfold ownN; rw [Bool.eq_false_iff]; simp; omega)
    clear hk1
    go_enter Tryd.func35, Tryd.ntmps35
    go_wp2
    go_ret
    exact ⟨ret_bool HN.out.symm, by first | apply below2 | apply below3 | apply below4⟩
   subst hk1
   by_cases ho1 : 0 < occ.length
   case pos =>
    have ho3 : decide ((0 : Int) < (occ.length : Int)) = true := decide_eq_true (by omega)
    have HN := LH (show ownN 1 field text n ⟨l1, l2, l3⟩ ⟨r1, r2, r3⟩ occ 0 = false from by cases occ with | nil => (exact absurd ho1 (Nat.lt_irrefl _)) | cons c t => (unfold ownN; simp))
    go_enter Tryd.func35, Tryd.ntmps35
    go_wp2
    go_ret
    exact ⟨ret_bool HN.out.symm, by first | apply below2 | apply below3 | apply below4⟩
   obtain rfl : occ = [] := List.eq_nil_of_length_eq_zero (by omega)
   have HKN := LH (trivial)
   clear ho1
   by_cases hx : text = []
   case pos =>
    subst hx
    have hse : (str []).toList = [] := str_toList []; have hse2 : (str []).toList.isEmpty = true := by rw [str_toList]; rfl
    have HN := LH (show ownN 1 field [] n ⟨l1, l2, l3⟩ ⟨r1, r2, r3⟩ [] 0 = false from by
     have h1 := HNN.out; have h2 := HKN.out
     obtain rfl : n = 0 := by omega
     unfold ownN; simp [HE1.out, HE2.out, h2])
    go_enter Tryd.func35, Tryd.ntmps35
    go_wp2
    go_loop [124] (fun iv => iv = .int .i64 0) (fun _ => 0)
    case atStart => exact rfl
    case round =>
     subst hrel
     go_wp2
     go_ret
     exact ⟨ret_bool HN.out.symm, by first | apply below2 | apply below4⟩
   have hx1 : (str text).toList.isEmpty = false := by rw [str_toList]; cases text; exact absurd rfl hx; rfl
   have hx2 : ¬ (str text).toList = [] := by rw [str_toList]; exact hx
   have HN := LH (show ownN 1 field text n ⟨l1, l2, l3⟩ ⟨r1, r2, r3⟩ [] 0 = true from by
    have h1 := HNN.out; have h2 := HKN.out
    obtain rfl : n = 0 := by omega
    unfold ownN; simp [HE1.out, HE2.out, h2, hx])
   clear hx
   go_enter Tryd.func35, Tryd.ntmps35
   go_wp2
   go_loop [124] (fun iv => iv = .int .i64 0) (fun _ => 0)
   case atStart => exact rfl
   case round =>
    subst hrel
    go_wp2
    go_ret
    exact ⟨ret_bool HN.out.symm, by first | apply below2 | apply below4⟩
theorem own_2 : OwnOk 2 := by
 intro n field text lo hi occ oa ka oc kn kc w F hA hO ht
 obtain ⟨l1, l2, l3⟩ := lo; obtain ⟨r1, r2, r3⟩ := hi
 have a0 : w.cell? ⟨17, 20, none⟩ = some (.bool true) := hA.1 20 _ rfl
 have a1 : w.cell? ⟨17, 21, none⟩ = some (.bool true) := hA.1 21 _ rfl
 have a2 : w.cell? ⟨17, 22, none⟩ = some (.int .i64 0) := hA.1 22 _ rfl
 have a3 : w.cell? ⟨17, 23, none⟩ = some (.int .i64 999999999) := hA.1 23 _ rfl
 have a4 : w.cell? ⟨17, 24, none⟩ = some (.bool false) := hA.1 24 _ rfl
 have a5 : w.cell? ⟨17, 25, none⟩ = some (.bool false) := hA.1 25 _ rfl
 have a6 : w.cell? ⟨17, 26, none⟩ = some (.int .i64 0) := hA.1 26 _ rfl
 have a7 : w.cell? ⟨17, 27, none⟩ = some (.int .i64 0) := hA.1 27 _ rfl
 have a8 : w.cell? ⟨17, 28, none⟩ = some (.int .i64 6) := hA.1 28 _ rfl
 have a9 : w.cell? ⟨17, 29, none⟩ = some (.string ⟨#[]⟩) := hA.1 29 _ rfl
 have hag := hA.2
 have honb : occ.length ≤ 9223372036854775807 := by have h : occ.length ≤ maxLen := Nat.le_trans hO.2.1 hO.2.2.1; unfold maxLen at h; omega
 have HO := LH hO; have HT := LH ht
 have q1 := fun W => bd_nez l1 l2 l3 W; have q2 := fun W => bd_nez r1 r2 r3 W
 have q3 := fun op x y u W => bd_grd l1 l2 (str l3) op x y u W; have q4 := fun op x y u W => bd_grd r1 r2 (str r3) op x y u W
 generalize hb1 : Bd.nil ⟨l1, l2, l3⟩ = b1 at *; generalize hb2 : Bd.nil ⟨r1, r2, r3⟩ = b2 at *
 have HE1 := LH hb1; have HE2 := LH hb2
 clear hb1 hb2 hA hO ht
 simp only []
 by_cases hn1 : n < 0
 case pos =>
  have hn3 : decide (n < 0) = true := decide_eq_true hn1
  have HN := LH (show ownN 2 field text n ⟨l1, l2, l3⟩ ⟨r1, r2, r3⟩ occ kn = false from by have hq : numB n = false := (by unfold numB maxNum; rw [decide_eq_false (show ¬ 0 ≤ n by omega), Bool.false_and]); unfold ownN; simp [hq])
  clear hn1
  go_enter Tryd.func35, Tryd.ntmps35
  go_wp2
  go_ret
  exact ⟨ret_bool HN.out.symm, by first | apply below2 | apply below3 | apply below4⟩
 have hn3 : decide (n < 0) = false := decide_eq_false hn1
 by_cases hn2 : 999999999 < n
 case pos =>
  have hn4 : decide (999999999 < n) = true := decide_eq_true hn2
  have HN := LH (show ownN 2 field text n ⟨l1, l2, l3⟩ ⟨r1, r2, r3⟩ occ kn = false from by have hq : numB n = false := (by unfold numB maxNum; rw [decide_eq_false (show ¬ n ≤ 999999999 by omega), Bool.and_false]); unfold ownN; simp [hq])
  clear hn1 hn2
  go_enter Tryd.func35, Tryd.ntmps35
  go_wp2
  go_ret
  exact ⟨ret_bool HN.out.symm, by first | apply below2 | apply below3 | apply below4⟩
 have hn4 : decide (999999999 < n) = false := decide_eq_false hn2
 have HNN := LH (show 0 ≤ n ∧ n ≤ 999999999 from by omega)
 clear hn1 hn2
 cases b1 with
 | false =>
  have HN := LH (show ownN 2 field text n ⟨l1, l2, l3⟩ ⟨r1, r2, r3⟩ occ kn = false from by unfold ownN; simp [HE1.out])
  go_enter Tryd.func35, Tryd.ntmps35
  go_wp2
  go_ret
  exact ⟨ret_bool HN.out.symm, by first | apply below2 | apply below3 | apply below4⟩
 | true =>
  cases b2 with
  | false =>
   have HN := LH (show ownN 2 field text n ⟨l1, l2, l3⟩ ⟨r1, r2, r3⟩ occ kn = false from by unfold ownN; simp [HE2.out])
   go_enter Tryd.func35, Tryd.ntmps35
   go_wp2
   go_ret
   exact ⟨ret_bool HN.out.symm, by first | apply below2 | apply below3 | apply below4⟩
  | true =>
   by_cases hk1 : kn = 0
   case neg =>
    have hk5 : 0 < kn := by omega
    have hk6 : 1 ≤ kn := by omega
    have hk7 : decide (0 < kn) = true := decide_eq_true (by omega)
    have hk8 : decide (kn < 1) = false := decide_eq_false (by omega)
    have hk9 : decide ((kn : Int) < 1) = false := decide_eq_false (by omega)
    have HN := LH (show ownN 2 field text n ⟨l1, l2, l3⟩ ⟨r1, r2, r3⟩ occ kn = false from by unfold ownN; rw [Bool.eq_false_iff]; simp; omega)
    clear hk1
    go_enter Tryd.func35, Tryd.ntmps35
    go_wp2
    go_ret
    exact ⟨ret_bool HN.out.symm, by first | apply below2 | apply below3 | apply below4⟩
   subst hk1
   by_cases ho1 : 0 < occ.length
   case pos =>
    have ho3 : decide ((0 : Int) < (occ.length : Int)) = true := decide_eq_true (by omega)
    have HN := LH (show ownN 2 field text n ⟨l1, l2, l3⟩ ⟨r1, r2, r3⟩ occ 0 = false from by cases occ with | nil => (exact absurd ho1 (Nat.lt_irrefl _)) | cons c t => (unfold ownN; simp))
    go_enter Tryd.func35, Tryd.ntmps35
    go_wp2
    go_ret
    exact ⟨ret_bool HN.out.symm, by first | apply below2 | apply below3 | apply below4⟩
   obtain rfl : occ = [] := List.eq_nil_of_length_eq_zero (by omega)
   have HKN := LH (trivial)
   clear ho1
   have HN := LH (show ownN 2 field text n ⟨l1, l2, l3⟩ ⟨r1, r2, r3⟩ [] 0 = true from by
    have h1 := HNN.out; have h2 := HKN.out
    have h4 : numB n = true := numB_iff.2 h1
    unfold ownN; simp [HE1.out, HE2.out, h2, h4])
   go_enter Tryd.func35, Tryd.ntmps35
   go_wp2
   go_loop [124] (fun iv => iv = .int .i64 0) (fun _ => 0)
   case atStart => exact rfl
   case round =>
    subst hrel
    go_wp2
    go_ret
    exact ⟨ret_bool HN.out.symm, by first | apply below2 | apply below4⟩
theorem own_3 : OwnOk 3 := by
 intro n field text lo hi occ oa ka oc kn kc w F hA hO ht
 obtain ⟨l1, l2, l3⟩ := lo; obtain ⟨r1, r2, r3⟩ := hi
 have a0 : w.cell? ⟨17, 30, none⟩ = some (.bool true) := hA.1 30 _ rfl
 have a1 : w.cell? ⟨17, 31, none⟩ = some (.bool true) := hA.1 31 _ rfl
 have a2 : w.cell? ⟨17, 32, none⟩ = some (.int .i64 0) := hA.1 32 _ rfl
 have a3 : w.cell? ⟨17, 33, none⟩ = some (.int .i64 0) := hA.1 33 _ rfl
 have a4 : w.cell? ⟨17, 34, none⟩ = some (.bool false) := hA.1 34 _ rfl
 have a5 : w.cell? ⟨17, 35, none⟩ = some (.bool false) := hA.1 35 _ rfl
 have a6 : w.cell? ⟨17, 36, none⟩ = some (.int .i64 0) := hA.1 36 _ rfl
 have a7 : w.cell? ⟨17, 37, none⟩ = some (.int .i64 0) := hA.1 37 _ rfl
 have a8 : w.cell? ⟨17, 38, none⟩ = some (.int .i64 6) := hA.1 38 _ rfl
 have a9 : w.cell? ⟨17, 39, none⟩ = some (.string ⟨#[]⟩) := hA.1 39 _ rfl
 have hag := hA.2
 have honb : occ.length ≤ 9223372036854775807 := by have h : occ.length ≤ maxLen := Nat.le_trans hO.2.1 hO.2.2.1; unfold maxLen at h; omega
 have HO := LH hO; have HT := LH ht
 have q1 := fun W => bd_nez l1 l2 l3 W; have q2 := fun W => bd_nez r1 r2 r3 W
 have q3 := fun op x y u W => bd_grd l1 l2 (str l3) op x y u W; have q4 := fun op x y u W => bd_grd r1 r2 (str r3) op x y u W
 generalize hb1 : Bd.nil ⟨l1, l2, l3⟩ = b1 at *; generalize hb2 : Bd.nil ⟨r1, r2, r3⟩ = b2 at *
 have HE1 := LH hb1; have HE2 := LH hb2
 clear hb1 hb2 hA hO ht
 simp only []
 by_cases hn1 : n < 0
 case pos =>
  have hn3 : decide (n < 0) = true := decide_eq_true hn1
  have HN := LH (show ownN 3 field text n ⟨l1, l2, l3⟩ ⟨r1, r2, r3⟩ occ kn = false from by have hq : ¬ n = 0 := (by omega); unfold ownN; simp [hq])
  clear hn1
  go_enter Tryd.func35, Tryd.ntmps35
  go_wp2
  go_ret
  exact ⟨ret_bool HN.out.symm, by first | apply below2 | apply below3 | apply below4⟩
 have hn3 : decide (n < 0) = false := decide_eq_false hn1
 by_cases hn2 : 0 < n
 case pos =>
  have hn4 : decide (0 < n) = true := decide_eq_true hn2
  have HN := LH (show ownN 3 field text n ⟨l1, l2, l3⟩ ⟨r1, r2, r3⟩ occ kn = false from by have hq : ¬ n = 0 := (by omega); unfold ownN; simp [hq])
  clear hn1 hn2
  go_enter Tryd.func35, Tryd.ntmps35
  go_wp2
  go_ret
  exact ⟨ret_bool HN.out.symm, by first | apply below2 | apply below3 | apply below4⟩
 have hn4 : decide (0 < n) = false := decide_eq_false hn2
 have HNN := LH (show 0 ≤ n ∧ n ≤ 0 from by omega)
 clear hn1 hn2
 cases b1 with
 | false =>
  have HN := LH (show ownN 3 field text n ⟨l1, l2, l3⟩ ⟨r1, r2, r3⟩ occ kn = false from by unfold ownN; simp [HE1.out])
  go_enter Tryd.func35, Tryd.ntmps35
  go_wp2
  go_ret
  exact ⟨ret_bool HN.out.symm, by first | apply below2 | apply below3 | apply below4⟩
 | true =>
  cases b2 with
  | false =>
   have HN := LH (show ownN 3 field text n ⟨l1, l2, l3⟩ ⟨r1, r2, r3⟩ occ kn = false from by unfold ownN; simp [HE2.out])
   go_enter Tryd.func35, Tryd.ntmps35
   go_wp2
   go_ret
   exact ⟨ret_bool HN.out.symm, by first | apply below2 | apply below3 | apply below4⟩
  | true =>
   by_cases hk1 : kn = 0
   case neg =>
    have hk5 : 0 < kn := by omega
    have hk6 : 1 ≤ kn := by omega
    have hk7 : decide (0 < kn) = true := decide_eq_true (by omega)
    have hk8 : decide (kn < 1) = false := decide_eq_false (by omega)
    have hk9 : decide ((kn : Int) < 1) = false := decide_eq_false (by omega)
    have HN := LH (show ownN 3 field text n ⟨l1, l2, l3⟩ ⟨r1, r2, r3⟩ occ kn = false from by unfold ownN; rw [Bool.eq_false_iff]; simp; omega)
    clear hk1
    go_enter Tryd.func35, Tryd.ntmps35
    go_wp2
    go_ret
    exact ⟨ret_bool HN.out.symm, by first | apply below2 | apply below3 | apply below4⟩
   subst hk1
   by_cases ho1 : 0 < occ.length
   case pos =>
    have ho3 : decide ((0 : Int) < (occ.length : Int)) = true := decide_eq_true (by omega)
    have HN := LH (show ownN 3 field text n ⟨l1, l2, l3⟩ ⟨r1, r2, r3⟩ occ 0 = false from by cases occ with | nil => (exact absurd ho1 (Nat.lt_irrefl _)) | cons c t => (unfold ownN; simp))
    go_enter Tryd.func35, Tryd.ntmps35
    go_wp2
    go_ret
    exact ⟨ret_bool HN.out.symm, by first | apply below2 | apply below3 | apply below4⟩
   obtain rfl : occ = [] := List.eq_nil_of_length_eq_zero (by omega)
   have HKN := LH (trivial)
   clear ho1
   by_cases hx : text = []
   case pos =>
    subst hx
    have hse : (str []).toList = [] := str_toList []; have hse2 : (str []).toList.isEmpty = true := by rw [str_toList]; rfl
    have HN := LH (show ownN 3 field [] n ⟨l1, l2, l3⟩ ⟨r1, r2, r3⟩ [] 0 = false from by
     have h1 := HNN.out; have h2 := HKN.out
     obtain rfl : n = 0 := by omega
     unfold ownN; simp [HE1.out, HE2.out, h2])
    go_enter Tryd.func35, Tryd.ntmps35
    go_wp2
    go_loop [124] (fun iv => iv = .int .i64 0) (fun _ => 0)
    case atStart => exact rfl
    case round =>
     subst hrel
     go_wp2
     go_ret
     exact ⟨ret_bool HN.out.symm, by first | apply below2 | apply below4⟩
   have hx1 : (str text).toList.isEmpty = false := by rw [str_toList]; cases text; exact absurd rfl hx; rfl
   have hx2 : ¬ (str text).toList = [] := by rw [str_toList]; exact hx
   have HN := LH (show ownN 3 field text n ⟨l1, l2, l3⟩ ⟨r1, r2, r3⟩ [] 0 = true from by
    have h1 := HNN.out; have h2 := HKN.out
    obtain rfl : n = 0 := by omega
    unfold ownN; simp [HE1.out, HE2.out, h2, hx])
   clear hx
   go_enter Tryd.func35, Tryd.ntmps35
   go_wp2
   go_loop [124] (fun iv => iv = .int .i64 0) (fun _ => 0)
   case atStart => exact rfl
   case round =>
    subst hrel
    go_wp2
    go_ret
    exact ⟨ret_bool HN.out.symm, by first | apply below2 | apply below4⟩
theorem own_4 : OwnOk 4 := by
 intro n field text lo hi occ oa ka oc kn kc w F hA hO ht
 obtain ⟨l1, l2, l3⟩ := lo; obtain ⟨r1, r2, r3⟩ := hi
 have a0 : w.cell? ⟨17, 40, none⟩ = some (.bool true) := hA.1 40 _ rfl
 have a1 : w.cell? ⟨17, 41, none⟩ = some (.bool true) := hA.1 41 _ rfl
 have a2 : w.cell? ⟨17, 42, none⟩ = some (.int .i64 0) := hA.1 42 _ rfl
 have a3 : w.cell? ⟨17, 43, none⟩ = some (.int .i64 0) := hA.1 43 _ rfl
 have a4 : w.cell? ⟨17, 44, none⟩ = some (.bool false) := hA.1 44 _ rfl
 have a5 : w.cell? ⟨17, 45, none⟩ = some (.bool false) := hA.1 45 _ rfl
 have a6 : w.cell? ⟨17, 46, none⟩ = some (.int .i64 0) := hA.1 46 _ rfl
 have a7 : w.cell? ⟨17, 47, none⟩ = some (.int .i64 0) := hA.1 47 _ rfl
 have a8 : w.cell? ⟨17, 48, none⟩ = some (.int .i64 6) := hA.1 48 _ rfl
 have a9 : w.cell? ⟨17, 49, none⟩ = some (.string ⟨#[]⟩) := hA.1 49 _ rfl
 have hag := hA.2
 have honb : occ.length ≤ 9223372036854775807 := by have h : occ.length ≤ maxLen := Nat.le_trans hO.2.1 hO.2.2.1; unfold maxLen at h; omega
 have HO := LH hO; have HT := LH ht
 have q1 := fun W => bd_nez l1 l2 l3 W; have q2 := fun W => bd_nez r1 r2 r3 W
 have q3 := fun op x y u W => bd_grd l1 l2 (str l3) op x y u W; have q4 := fun op x y u W => bd_grd r1 r2 (str r3) op x y u W
 generalize hb1 : Bd.nil ⟨l1, l2, l3⟩ = b1 at *; generalize hb2 : Bd.nil ⟨r1, r2, r3⟩ = b2 at *
 have HE1 := LH hb1; have HE2 := LH hb2
 clear hb1 hb2 hA hO ht
 simp only []
 by_cases hn1 : n < 0
 case pos =>
  have hn3 : decide (n < 0) = true := decide_eq_true hn1
  have HN := LH (show ownN 4 field text n ⟨l1, l2, l3⟩ ⟨r1, r2, r3⟩ occ kn = false from by have hq : ¬ n = 0 := (by omega); unfold ownN; simp [hq])
  clear hn1
  go_enter Tryd.func35, Tryd.ntmps35
  go_wp2
  go_ret
  exact ⟨ret_bool HN.out.symm, by first | apply below2 | apply below3 | apply below4⟩
 have hn3 : decide (n < 0) = false := decide_eq_false hn1
 by_cases hn2 : 0 < n
 case pos =>
  have hn4 : decide (0 < n) = true := decide_eq_true hn2
  have HN := LH (show ownN 4 field text n ⟨l1, l2, l3⟩ ⟨r1, r2, r3⟩ occ kn = false from by have hq : ¬ n = 0 := (by omega); unfold ownN; simp [hq])
  clear hn1 hn2
  go_enter Tryd.func35, Tryd.ntmps35
  go_wp2
  go_ret
  exact ⟨ret_bool HN.out.symm, by first | apply below2 | apply below3 | apply below4⟩
 have hn4 : decide (0 < n) = false := decide_eq_false hn2
 have HNN := LH (show 0 ≤ n ∧ n ≤ 0 from by omega)
 clear hn1 hn2
 cases b1 with
 | false =>
  have HN := LH (show ownN 4 field text n ⟨l1, l2, l3⟩ ⟨r1, r2, r3⟩ occ kn = false from by unfold ownN; simp [HE1.out])
  go_enter Tryd.func35, Tryd.ntmps35
  go_wp2
  go_ret
  exact ⟨ret_bool HN.out.symm, by first | apply below2 | apply below3 | apply below4⟩
 | true =>
  cases b2 with
  | false =>
   have HN := LH (show ownN 4 field text n ⟨l1, l2, l3⟩ ⟨r1, r2, r3⟩ occ kn = false from by unfold ownN; simp [HE2.out])
   go_enter Tryd.func35, Tryd.ntmps35
   go_wp2
   go_ret
   exact ⟨ret_bool HN.out.symm, by first | apply below2 | apply below3 | apply below4⟩
  | true =>
   by_cases hk1 : kn = 0
   case neg =>
    have hk5 : 0 < kn := by omega
    have hk6 : 1 ≤ kn := by omega
    have hk7 : decide (0 < kn) = true := decide_eq_true (by omega)
    have hk8 : decide (kn < 1) = false := decide_eq_false (by omega)
    have hk9 : decide ((kn : Int) < 1) = false := decide_eq_false (by omega)
    have HN := LH (show ownN 4 field text n ⟨l1, l2, l3⟩ ⟨r1, r2, r3⟩ occ kn = false from by unfold ownN; rw [Bool.eq_false_iff]; simp; omega)
    clear hk1
    go_enter Tryd.func35, Tryd.ntmps35
    go_wp2
    go_ret
    exact ⟨ret_bool HN.out.symm, by first | apply below2 | apply below3 | apply below4⟩
   subst hk1
   by_cases ho1 : 0 < occ.length
   case pos =>
    have ho3 : decide ((0 : Int) < (occ.length : Int)) = true := decide_eq_true (by omega)
    have HN := LH (show ownN 4 field text n ⟨l1, l2, l3⟩ ⟨r1, r2, r3⟩ occ 0 = false from by cases occ with | nil => (exact absurd ho1 (Nat.lt_irrefl _)) | cons c t => (unfold ownN; simp))
    go_enter Tryd.func35, Tryd.ntmps35
    go_wp2
    go_ret
    exact ⟨ret_bool HN.out.symm, by first | apply below2 | apply below3 | apply below4⟩
   obtain rfl : occ = [] := List.eq_nil_of_length_eq_zero (by omega)
   have HKN := LH (trivial)
   clear ho1
   have HWX := LH (show (str text).data.toList = text from rfl)
   have HWC := LH (fun (W : World) => pwild_any (str text) W (by rw [ba_size]; exact HT.out))
   have HN := LH (show ownN 4 field text n ⟨l1, l2, l3⟩ ⟨r1, r2, r3⟩ [] 0 = wildB text from by
    have h1 := HNN.out; have h2 := HKN.out
    have h3 : n = 0 := by omega
    unfold ownN; simp [HE1.out, HE2.out, h2, h3])
   go_enter Tryd.func35, Tryd.ntmps35
   go_wp2
   go_loop [124] (fun iv => iv = .int .i64 0) (fun _ => 0)
   case atStart => exact rfl
   case round =>
    subst hrel
    go_wp2_with ((with_reducible refine (HWC.out _).mono ?_); rintro e w2 ⟨rfl, rfl⟩)
    go_ret
    exact ⟨ret_bool (by rw [HN.out]; rfl), below2 _ _ _⟩
end Go.Proofs.YthcldpminmhgkaaDoor
end
