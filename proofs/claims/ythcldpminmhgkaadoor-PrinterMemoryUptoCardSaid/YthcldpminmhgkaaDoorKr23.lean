/- Merged for a claim by shake.py: Jv -/
import Derived.Test.YthcldpminmhgkaaDoorKrA
import Derived.Test.YthcldpminmhgkaaDoorKr21
set_option maxRecDepth 100000
set_option maxHeartbeats 4000000
set_option linter.unusedSimpArgs false
set_option linter.unusedVariables false
section
namespace Go.Proofs.YthcldpminmhgkaaDoor
open Go.RowKit
def LvlOk (kind : Int) : Prop := ∀ (n : Int) (field text : List UInt8) (lo hi : Bd) (oa ka : Option Addr) (on oc kn kc : Nat) (w : World), AskEnv w → Calls Tryd.prog 59 #[.agg #[.int .i64 kind, .string (str field), .string (str text), .int .i64 n, .bool lo.open_, .bool lo.in_, .string (str lo.text), .bool hi.open_, .bool hi.in_, .string (str hi.text), .slice oa on oc, .slice ka kn kc]] w fun e w' => e = .returned (.int .i64 (levK kind n : Int)) ∧ w.alloc (.cells #[.int .i64 kind, .string (str field), .string (str text), .int .i64 n, .bool lo.open_, .bool lo.in_, .string (str lo.text), .bool hi.open_, .bool hi.in_, .string (str hi.text), .slice oa on oc, .slice ka kn kc] 27) = w'
theorem lvl_1 : LvlOk 1 := by
 intro n field text lo hi oa ka on oc kn kc w hA
 have a8 : w.cell? ⟨17, 18, none⟩ = some (.int .i64 6) := hA.1 18 _ rfl
 have hag := hA.2
 clear hA
 go_enter Tryd.func59, Tryd.ntmps59
 go_wp2
 go_ret
 exact ⟨ret_int15 (rfl), rfl⟩
theorem lvl_2 : LvlOk 2 := by
 intro n field text lo hi oa ka on oc kn kc w hA
 have a8 : w.cell? ⟨17, 28, none⟩ = some (.int .i64 6) := hA.1 28 _ rfl
 have hag := hA.2
 clear hA
 go_enter Tryd.func59, Tryd.ntmps59
 go_wp2
 go_ret
 exact ⟨ret_int15 (rfl), rfl⟩
theorem lvl_3 : LvlOk 3 := by
 intro n field text lo hi oa ka on oc kn kc w hA
 have a8 : w.cell? ⟨17, 38, none⟩ = some (.int .i64 6) := hA.1 38 _ rfl
 have hag := hA.2
 clear hA
 go_enter Tryd.func59, Tryd.ntmps59
 go_wp2
 go_ret
 exact ⟨ret_int15 (rfl), rfl⟩
theorem lvl_4 : LvlOk 4 := by
 intro n field text lo hi oa ka on oc kn kc w hA
 have a8 : w.cell? ⟨17, 48, none⟩ = some (.int .i64 6) := hA.1 48 _ rfl
 have hag := hA.2
 clear hA
 go_enter Tryd.func59, Tryd.ntmps59
 go_wp2
 go_ret
 exact ⟨ret_int15 (rfl), rfl⟩
theorem lvl_5 : LvlOk 5 := by
 intro n field text lo hi oa ka on oc kn kc w hA
 have a8 : w.cell? ⟨17, 58, none⟩ = some (.int .i64 6) := hA.1 58 _ rfl
 have hag := hA.2
 clear hA
 go_enter Tryd.func59, Tryd.ntmps59
 go_wp2
 go_ret
 exact ⟨ret_int15 (rfl), rfl⟩
theorem lvl_6 : LvlOk 6 := by
 intro n field text lo hi oa ka on oc kn kc w hA
 have a8 : w.cell? ⟨17, 68, none⟩ = some (.int .i64 6) := hA.1 68 _ rfl
 have hag := hA.2
 clear hA
 go_enter Tryd.func59, Tryd.ntmps59
 go_wp2
 go_ret
 exact ⟨ret_int15 (rfl), rfl⟩
theorem lvl_7 : LvlOk 7 := by
 intro n field text lo hi oa ka on oc kn kc w hA
 have a8 : w.cell? ⟨17, 78, none⟩ = some (.int .i64 6) := hA.1 78 _ rfl
 have hag := hA.2
 clear hA
 go_enter Tryd.func59, Tryd.ntmps59
 go_wp2
 go_ret
 exact ⟨ret_int15 (rfl), rfl⟩
theorem lvl_8 : LvlOk 8 := by
 intro n field text lo hi oa ka on oc kn kc w hA
 have a8 : w.cell? ⟨17, 88, none⟩ = some (.int .i64 6) := hA.1 88 _ rfl
 have hag := hA.2
 clear hA
 go_enter Tryd.func59, Tryd.ntmps59
 go_wp2
 go_ret
 exact ⟨ret_int15 (rfl), rfl⟩
theorem lvl_9 : LvlOk 9 := by
 intro n field text lo hi oa ka on oc kn kc w hA
 have a8 : w.cell? ⟨17, 98, none⟩ = some (.int .i64 0) := hA.1 98 _ rfl
 have hag := hA.2
 clear hA
 by_cases hn : 0 < n
 ·have HQ := LH (show levK 9 n = 6 from by unfold levK; rw [if_pos rfl, if_pos hn])
  go_enter Tryd.func59, Tryd.ntmps59
  go_wp2
  go_ret
  exact ⟨ret_int15 (by rw [HQ.out]; rfl), rfl⟩
 ·have HQ := LH (show levK 9 n = 0 from by unfold levK; rw [if_pos rfl, if_neg hn])
  go_enter Tryd.func59, Tryd.ntmps59
  go_wp2
  go_ret
  exact ⟨ret_int15 (by rw [HQ.out]; rfl), rfl⟩
theorem lvl_10 : LvlOk 10 := by
 intro n field text lo hi oa ka on oc kn kc w hA
 have a8 : w.cell? ⟨17, 108, none⟩ = some (.int .i64 2) := hA.1 108 _ rfl
 have hag := hA.2
 clear hA
 go_enter Tryd.func59, Tryd.ntmps59
 go_wp2
 go_ret
 exact ⟨ret_int15 (rfl), rfl⟩
theorem lvl_11 : LvlOk 11 := by
 intro n field text lo hi oa ka on oc kn kc w hA
 have a8 : w.cell? ⟨17, 118, none⟩ = some (.int .i64 1) := hA.1 118 _ rfl
 have hag := hA.2
 clear hA
 go_enter Tryd.func59, Tryd.ntmps59
 go_wp2
 go_ret
 exact ⟨ret_int15 (rfl), rfl⟩
theorem lvl_12 : LvlOk 12 := by
 intro n field text lo hi oa ka on oc kn kc w hA
 have a8 : w.cell? ⟨17, 128, none⟩ = some (.int .i64 3) := hA.1 128 _ rfl
 have hag := hA.2
 clear hA
 go_enter Tryd.func59, Tryd.ntmps59
 go_wp2
 go_ret
 exact ⟨ret_int15 (rfl), rfl⟩
theorem lvl_13 : LvlOk 13 := by
 intro n field text lo hi oa ka on oc kn kc w hA
 have a8 : w.cell? ⟨17, 138, none⟩ = some (.int .i64 4) := hA.1 138 _ rfl
 have hag := hA.2
 clear hA
 go_enter Tryd.func59, Tryd.ntmps59
 go_wp2
 go_ret
 exact ⟨ret_int15 (rfl), rfl⟩
theorem lvl_14 : LvlOk 14 := by
 intro n field text lo hi oa ka on oc kn kc w hA
 have a8 : w.cell? ⟨17, 148, none⟩ = some (.int .i64 5) := hA.1 148 _ rfl
 have hag := hA.2
 clear hA
 go_enter Tryd.func59, Tryd.ntmps59
 go_wp2
 go_ret
 exact ⟨ret_int15 (rfl), rfl⟩
theorem lvl_15 : LvlOk 15 := by
 intro n field text lo hi oa ka on oc kn kc w hA
 have a8 : w.cell? ⟨17, 158, none⟩ = some (.int .i64 5) := hA.1 158 _ rfl
 have hag := hA.2
 clear hA
 go_enter Tryd.func59, Tryd.ntmps59
 go_wp2
 go_ret
 exact ⟨ret_int15 (rfl), rfl⟩
theorem lvl_any {kind : Int} (h1 : 1 ≤ kind) (h2 : kind ≤ 15) : LvlOk kind := by
 have h : kind = 1 ∨ kind = 2 ∨ kind = 3 ∨ kind = 4 ∨ kind = 5 ∨ kind = 6 ∨ kind = 7 ∨ kind = 8 ∨ kind = 9 ∨ kind = 10 ∨ kind = 11 ∨ kind = 12 ∨ kind = 13 ∨ kind = 14 ∨ kind = 15 := by omega
 rcases h with rfl | rfl | rfl | rfl | rfl | rfl | rfl | rfl | rfl | rfl | rfl | rfl | rfl | rfl | rfl
 ·exact lvl_1
 ·exact lvl_2
 ·exact lvl_3
 ·exact lvl_4
 ·exact lvl_5
 ·exact lvl_6
 ·exact lvl_7
 ·exact lvl_8
 ·exact lvl_9
 ·exact lvl_10
 ·exact lvl_11
 ·exact lvl_12
 ·exact lvl_13
 ·exact lvl_14
 ·exact lvl_15
def RlvOk (kind : Int) : Prop := ∀ (n : Int) (field text : List UInt8) (lo hi : Bd) (oa ka : Option Addr) (on oc kn kc : Nat) (w : World), 0 ≤ n → Calls Tryd.prog 69 #[.agg #[.int .i64 kind, .string (str field), .string (str text), .int .i64 n, .bool lo.open_, .bool lo.in_, .string (str lo.text), .bool hi.open_, .bool hi.in_, .string (str hi.text), .slice oa on oc, .slice ka kn kc]] w fun e w' => e = .returned (.int .i64 (levK kind n : Int)) ∧ w.alloc (.cells #[.int .i64 kind, .string (str field), .string (str text), .int .i64 n, .bool lo.open_, .bool lo.in_, .string (str lo.text), .bool hi.open_, .bool hi.in_, .string (str hi.text), .slice oa on oc, .slice ka kn kc] 27) = w'
theorem rlv_9 : RlvOk 9 := by
 intro n field text lo hi oa ka on oc kn kc w hn0
 by_cases hn : n = 0
 ·subst hn
  go_enter Tryd.func69, Tryd.ntmps69
  go_wp2
  go_ret
  exact ⟨ret_int15 (rfl), rfl⟩
 ·have HQ := LH (show levK 9 n = 6 from by unfold levK; rw [if_pos rfl, if_pos (by omega)])
  have hn1 : (n == 0) = false := by rw [beq_eq_false_iff_ne]; exact hn
  clear hn hn0
  go_enter Tryd.func69, Tryd.ntmps69
  go_wp2
  go_ret
  exact ⟨ret_int15 (by rw [HQ.out]; rfl), rfl⟩
theorem rlv_10 : RlvOk 10 := by
 intro n field text lo hi oa ka on oc kn kc w hn0
 go_enter Tryd.func69, Tryd.ntmps69
 go_wp2
 go_ret
 exact ⟨ret_int15 (rfl), rfl⟩
theorem rlv_11 : RlvOk 11 := by
 intro n field text lo hi oa ka on oc kn kc w hn0
 go_enter Tryd.func69, Tryd.ntmps69
 go_wp2
 go_ret
 exact ⟨ret_int15 (rfl), rfl⟩
theorem rlv_12 : RlvOk 12 := by
 intro n field text lo hi oa ka on oc kn kc w hn0
 go_enter Tryd.func69, Tryd.ntmps69
 go_wp2
 go_ret
 exact ⟨ret_int15 (rfl), rfl⟩
theorem rlv_13 : RlvOk 13 := by
 intro n field text lo hi oa ka on oc kn kc w hn0
 go_enter Tryd.func69, Tryd.ntmps69
 go_wp2
 go_ret
 exact ⟨ret_int15 (rfl), rfl⟩
theorem rlv_14 : RlvOk 14 := by
 intro n field text lo hi oa ka on oc kn kc w hn0
 go_enter Tryd.func69, Tryd.ntmps69
 go_wp2
 go_ret
 exact ⟨ret_int15 (rfl), rfl⟩
theorem rlv_15 : RlvOk 15 := by
 intro n field text lo hi oa ka on oc kn kc w hn0
 go_enter Tryd.func69, Tryd.ntmps69
 go_wp2
 go_ret
 exact ⟨ret_int15 (rfl), rfl⟩
theorem rlv_any (kind : Int) : RlvOk kind := by
 by_cases h : kind = 9 ∨ kind = 10 ∨ kind = 11 ∨ kind = 12 ∨ kind = 13 ∨ kind = 14 ∨ kind = 15
 ·rcases h with rfl | rfl | rfl | rfl | rfl | rfl | rfl
  ·exact rlv_9
  ·exact rlv_10
  ·exact rlv_11
  ·exact rlv_12
  ·exact rlv_13
  ·exact rlv_14
  ·exact rlv_15
 ·intro n field text lo hi oa ka on oc kn kc w hn0
  have HQ := LH (show levK kind n = 6 from by unfold levK; rw [if_neg (by omega), if_neg (by omega), if_neg (by omega), if_neg (by omega), if_neg (by omega), if_neg (by omega)])
  have k9 : (kind == 9) = false := by rw [beq_eq_false_iff_ne]; omega
  have k10 : (kind == 10) = false := by rw [beq_eq_false_iff_ne]; omega
  have k11 : (kind == 11) = false := by rw [beq_eq_false_iff_ne]; omega
  have k12 : (kind == 12) = false := by rw [beq_eq_false_iff_ne]; omega
  have k13 : (kind == 13) = false := by rw [beq_eq_false_iff_ne]; omega
  have k14 : (kind == 14) = false := by rw [beq_eq_false_iff_ne]; omega
  have k15 : (kind == 15) = false := by rw [beq_eq_false_iff_ne]; omega
  clear h hn0
  go_enter Tryd.func69, Tryd.ntmps69
  go_wp2
  go_ret
  exact ⟨ret_int15 (by rw [HQ.out]; rfl), rfl⟩
def PbrOk (kind : Int) : Prop := ∀ (n : Int) (field text : List UInt8) (lo hi : Bd) (occ : List Int) (oa ka : Option Addr) (oc kn kc i : Nat) (w : World) (F : Nat → Prop), AskEnv w → RdF folS w F ⟨oa, occ.length, oc⟩ occ → (kind = 9 → i < occ.length) → Calls Tryd.prog 60 #[.agg #[.int .i64 kind, .string (str field), .string (str text), .int .i64 n, .bool lo.open_, .bool lo.in_, .string (str lo.text), .bool hi.open_, .bool hi.in_, .string (str hi.text), .slice oa occ.length oc, .slice ka kn kc], .int .i64 (i : Int)] w fun e w' => e = .returned (.int .i64 (barK kind (occ.getD i 0) : Int)) ∧ w.alloc (.cells #[.int .i64 kind, .string (str field), .string (str text), .int .i64 n, .bool lo.open_, .bool lo.in_, .string (str lo.text), .bool hi.open_, .bool hi.in_, .string (str hi.text), .slice oa occ.length oc, .slice ka kn kc] 27) = w'
theorem pbar_9 : PbrOk 9 := by
 intro n field text lo hi occ oa ka oc kn kc i w F hA hO hi9
 have a8 : w.cell? ⟨17, 98, none⟩ = some (.int .i64 0) := hA.1 98 _ rfl
 have hag := hA.2
 have hlt := hi9 rfl
 obtain ⟨a, rfl, hc⟩ := occ_cell hO hlt
 have hcb := World.block_lt_of_cell? w _ hc
 have hib : (i : Int) < (occ.length : Int) := by omega
 have HG := LH (show occ.getD i 0 = occ[i] from by rw [List.getD_eq_getElem?_getD, List.getElem?_eq_getElem hlt]; rfl)
 generalize occ[i] = x at *
 clear hA hO hi9
 by_cases hx : x = 0
 ·subst hx
  go_enter Tryd.func60, Tryd.ntmps60
  go_wp2
  go_ret
  exact ⟨ret_int15 (by rw [HG.out]; rfl), rfl⟩
 ·have HQ := LH (show barK 9 x = 4 from by unfold barK; rw [if_pos rfl, if_neg hx])
  have hx1 : (x == 0) = false := by rw [beq_eq_false_iff_ne]; exact hx
  clear hx
  go_enter Tryd.func60, Tryd.ntmps60
  go_wp2
  go_ret
  exact ⟨ret_int15 (by rw [HG.out, HQ.out]; rfl), rfl⟩
theorem pbar_10 : PbrOk 10 := by
 intro n field text lo hi occ oa ka oc kn kc i w F hA hO hi9
 have a8 : w.cell? ⟨17, 108, none⟩ = some (.int .i64 2) := hA.1 108 _ rfl
 have hag := hA.2
 clear hA hO hi9
 go_enter Tryd.func60, Tryd.ntmps60
 go_wp2
 go_ret
 exact ⟨ret_int15 (rfl), rfl⟩
theorem pbar_11 : PbrOk 11 := by
 intro n field text lo hi occ oa ka oc kn kc i w F hA hO hi9
 have a8 : w.cell? ⟨17, 118, none⟩ = some (.int .i64 1) := hA.1 118 _ rfl
 have hag := hA.2
 clear hA hO hi9
 go_enter Tryd.func60, Tryd.ntmps60
 go_wp2
 go_ret
 exact ⟨ret_int15 (rfl), rfl⟩
theorem pbar_12 : PbrOk 12 := by
 intro n field text lo hi occ oa ka oc kn kc i w F hA hO hi9
 have a8 : w.cell? ⟨17, 128, none⟩ = some (.int .i64 3) := hA.1 128 _ rfl
 have hag := hA.2
 clear hA hO hi9
 go_enter Tryd.func60, Tryd.ntmps60
 go_wp2
 go_ret
 exact ⟨ret_int15 (rfl), rfl⟩
theorem pbar_13 : PbrOk 13 := by
 intro n field text lo hi occ oa ka oc kn kc i w F hA hO hi9
 have a8 : w.cell? ⟨17, 138, none⟩ = some (.int .i64 4) := hA.1 138 _ rfl
 have hag := hA.2
 clear hA hO hi9
 go_enter Tryd.func60, Tryd.ntmps60
 go_wp2
 go_ret
 exact ⟨ret_int15 (rfl), rfl⟩
theorem pbar_14 : PbrOk 14 := by
 intro n field text lo hi occ oa ka oc kn kc i w F hA hO hi9
 have a8 : w.cell? ⟨17, 148, none⟩ = some (.int .i64 5) := hA.1 148 _ rfl
 have hag := hA.2
 clear hA hO hi9
 go_enter Tryd.func60, Tryd.ntmps60
 go_wp2
 go_ret
 exact ⟨ret_int15 (rfl), rfl⟩
theorem pbar_15 : PbrOk 15 := by
 intro n field text lo hi occ oa ka oc kn kc i w F hA hO hi9
 have a8 : w.cell? ⟨17, 158, none⟩ = some (.int .i64 5) := hA.1 158 _ rfl
 have hag := hA.2
 clear hA hO hi9
 go_enter Tryd.func60, Tryd.ntmps60
 go_wp2
 go_ret
 exact ⟨ret_int15 (rfl), rfl⟩
theorem pbar_any {kind : Int} (h1 : 9 ≤ kind) (h2 : kind ≤ 15) : PbrOk kind := by
 have h : kind = 9 ∨ kind = 10 ∨ kind = 11 ∨ kind = 12 ∨ kind = 13 ∨ kind = 14 ∨ kind = 15 := by omega
 rcases h with rfl | rfl | rfl | rfl | rfl | rfl | rfl
 ·exact pbar_9
 ·exact pbar_10
 ·exact pbar_11
 ·exact pbar_12
 ·exact pbar_13
 ·exact pbar_14
 ·exact pbar_15
def RatOk (kind : Int) : Prop := ∀ (n : Int) (field text : List UInt8) (lo hi : Bd) (occ : List Int) (oa ka : Option Addr) (oc kn kc i : Nat) (w : World) (F : Nat → Prop), AskEnv w → RdF folS w F ⟨oa, occ.length, oc⟩ occ → (kind = 9 → i < occ.length) → Calls Tryd.prog 68 #[.agg #[.int .i64 kind, .string (str field), .string (str text), .int .i64 n, .bool lo.open_, .bool lo.in_, .string (str lo.text), .bool hi.open_, .bool hi.in_, .string (str hi.text), .slice oa occ.length oc, .slice ka kn kc], .int .i64 (i : Int)] w fun e w' => e = .returned (.int .i64 (barK kind (occ.getD i 0) : Int)) ∧ w.alloc (.cells #[.int .i64 kind, .string (str field), .string (str text), .int .i64 n, .bool lo.open_, .bool lo.in_, .string (str lo.text), .bool hi.open_, .bool hi.in_, .string (str hi.text), .slice oa occ.length oc, .slice ka kn kc] 27) = w'
theorem rat_9 : RatOk 9 := by
 intro n field text lo hi occ oa ka oc kn kc i w F hA hO hi9
 have a8 : w.cell? ⟨17, 98, none⟩ = some (.int .i64 0) := hA.1 98 _ rfl
 have hag := hA.2
 have hlt := hi9 rfl
 obtain ⟨a, rfl, hc⟩ := occ_cell hO hlt
 have hcb := World.block_lt_of_cell? w _ hc
 have hib : (i : Int) < (occ.length : Int) := by omega
 have HG := LH (show occ.getD i 0 = occ[i] from by rw [List.getD_eq_getElem?_getD, List.getElem?_eq_getElem hlt]; rfl)
 generalize occ[i] = x at *
 clear hA hO hi9
 by_cases hx : x = 0
 ·subst hx
  go_enter Tryd.func68, Tryd.ntmps68
  go_wp2
  go_ret
  exact ⟨ret_int15 (by rw [HG.out]; rfl), rfl⟩
 ·have HQ := LH (show barK 9 x = 4 from by unfold barK; rw [if_pos rfl, if_neg hx])
  have hx1 : (x == 0) = false := by rw [beq_eq_false_iff_ne]; exact hx
  clear hx
  go_enter Tryd.func68, Tryd.ntmps68
  go_wp2
  go_ret
  exact ⟨ret_int15 (by rw [HG.out, HQ.out]; rfl), rfl⟩
theorem rat_10 : RatOk 10 := by
 intro n field text lo hi occ oa ka oc kn kc i w F hA hO hi9
 have a8 : w.cell? ⟨17, 108, none⟩ = some (.int .i64 2) := hA.1 108 _ rfl
 have hag := hA.2
 clear hA hO hi9
 go_enter Tryd.func68, Tryd.ntmps68
 go_wp2
 go_ret
 exact ⟨ret_int15 (rfl), rfl⟩
theorem rat_11 : RatOk 11 := by
 intro n field text lo hi occ oa ka oc kn kc i w F hA hO hi9
 have a8 : w.cell? ⟨17, 118, none⟩ = some (.int .i64 1) := hA.1 118 _ rfl
 have hag := hA.2
 clear hA hO hi9
 go_enter Tryd.func68, Tryd.ntmps68
 go_wp2
 go_ret
 exact ⟨ret_int15 (rfl), rfl⟩
theorem rat_12 : RatOk 12 := by
 intro n field text lo hi occ oa ka oc kn kc i w F hA hO hi9
 have a8 : w.cell? ⟨17, 128, none⟩ = some (.int .i64 3) := hA.1 128 _ rfl
 have hag := hA.2
 clear hA hO hi9
 go_enter Tryd.func68, Tryd.ntmps68
 go_wp2
 go_ret
 exact ⟨ret_int15 (rfl), rfl⟩
theorem rat_13 : RatOk 13 := by
 intro n field text lo hi occ oa ka oc kn kc i w F hA hO hi9
 have a8 : w.cell? ⟨17, 138, none⟩ = some (.int .i64 4) := hA.1 138 _ rfl
 have hag := hA.2
 clear hA hO hi9
 go_enter Tryd.func68, Tryd.ntmps68
 go_wp2
 go_ret
 exact ⟨ret_int15 (rfl), rfl⟩
theorem rat_14 : RatOk 14 := by
 intro n field text lo hi occ oa ka oc kn kc i w F hA hO hi9
 have a8 : w.cell? ⟨17, 148, none⟩ = some (.int .i64 5) := hA.1 148 _ rfl
 have hag := hA.2
 clear hA hO hi9
 go_enter Tryd.func68, Tryd.ntmps68
 go_wp2
 go_ret
 exact ⟨ret_int15 (rfl), rfl⟩
theorem rat_15 : RatOk 15 := by
 intro n field text lo hi occ oa ka oc kn kc i w F hA hO hi9
 have a8 : w.cell? ⟨17, 158, none⟩ = some (.int .i64 5) := hA.1 158 _ rfl
 have hag := hA.2
 clear hA hO hi9
 go_enter Tryd.func68, Tryd.ntmps68
 go_wp2
 go_ret
 exact ⟨ret_int15 (rfl), rfl⟩
theorem rat_any {kind : Int} (h1 : 9 ≤ kind) (h2 : kind ≤ 15) : RatOk kind := by
 have h : kind = 9 ∨ kind = 10 ∨ kind = 11 ∨ kind = 12 ∨ kind = 13 ∨ kind = 14 ∨ kind = 15 := by omega
 rcases h with rfl | rfl | rfl | rfl | rfl | rfl | rfl
 ·exact rat_9
 ·exact rat_10
 ·exact rat_11
 ·exact rat_12
 ·exact rat_13
 ·exact rat_14
 ·exact rat_15
end Go.Proofs.YthcldpminmhgkaaDoor
end
