/- Layer 20: two lists of instructions compared. -/
import Derived.Test.YtmdpfikalekmlaaGreatDoorIf
import Derived.Test.YtmdpfikalekmlaaGreatDoorRow
namespace Go.Proofs.YtmdpfikalekmlaaGreatDoor
open Go.RowKit
set_option maxRecDepth 100000
set_option maxHeartbeats 1000000
set_option linter.unusedSimpArgs false

theorem ftypeIns : Tryz.prog.stoodInHeld 43 = false := by kernel_rfl
theorem guardIns : Tryz.prog.eqGuardType Tryz.prog.depth 43 = false := by kernel_rfl
theorem structIns : Tryz.prog.underlying 43 = some (.struct (Tryz.prog.fieldsOf 43)) := by kernel_rfl
def insVal (x : Ins) : Value := .agg #[.int .i64 x.op, .int .u64 (x.a : Int), .int .u64 (x.b : Int)]
theorem ins_eqIn (x y : Ins) (W : World) : (Op.equalIn 10000 43 (insVal x) (insVal y)).run Tryz.prog W = .ok (decide (x = y)) W := by
  unfold insVal
  rw [run_equalIn_agg W 9999 43 _ _ structIns ftypeIns]
  simp only [Program.fieldsOf, Tryz.underlying43]
  simp [Op.eqFields, go_sem, Tryz.underlying3, Tryz.underlying41]
  obtain ⟨xo, xa, xb⟩ := x
  obtain ⟨yo, ya, yb⟩ := y
  simp only [Ins.mk.injEq]
  by_cases h1 : xo = yo <;> by_cases h2 : xa = ya <;> by_cases h3 : xb = yb <;> simp [h1, h2, h3, Int.natCast_inj]
theorem ins_neq (x y : Ins) (W : World) : (binOp .neq 43 (insVal x) (insVal y)).run Tryz.prog W = .ok (.bool (!decide (x = y))) W := by
  have h := ins_eqIn x y W
  unfold insVal at h ⊢
  rw [run_neq_struct, h]; rfl
theorem ins_guard (x y : Ins) (op : BinOp) (a b : Operand) (W : World) : (eqGuard op 43 a b (insVal x) (insVal y)).run Tryz.prog W = .ok () W := by
  unfold insVal
  exact run_eqGuard_agg W op 43 a b _ _ guardIns
def ScRel (l m : List Ins) (iv : Value) : Prop := ∃ k : Nat, k ≤ l.length ∧ l.take k = m.take k ∧ iv = .int .i64 (k : Int)
theorem sameCode_any (a b : Value) (l m : List Ins) (w : World) (B B' : Nat) (ha : RdL insS w B a l) (hb : RdL insS w B' b m) (hB : B ≤ w.heap.size) (hB' : B' ≤ w.heap.size) :
    Calls Tryz.prog 12 #[a, b] w fun e w' => e = .returned (.bool (decide (l = m))) ∧ Below w.heap.size w w' := by
  obtain ⟨A, ca, rfl, hca, hca2⟩ := ha.open_
  obtain ⟨A', cb, rfl, hcb, hcb2⟩ := hb.open_
  unfold maxLen at hca2 hcb2
  have HA := Lib.hid ha; have HB := Lib.hid hb
  clear ha hb
  by_cases hlen : l.length = m.length
  · have hlb : ((l.length : Int) != (m.length : Int)) = false := by rw [hlen]; simp
    go_enter Tryz.func12, Tryz.ntmps12
    go_wp2
    go_loopw [13] (fun iv wr => ScRel l m iv ∧ Below w.heap.size w wr) (fun iv _ => l.length - (intOf iv).toNat)
    case atStart => exact ⟨⟨0, by omega, by simp, rfl⟩, Below.refl _ _⟩
    case round =>
      obtain ⟨⟨k, hk, htk, rfl⟩, hbl⟩ := hrel
      have HT := Lib.hid htk; have HBL := Lib.hid hbl
      clear htk hbl
      by_cases hlt : k < l.length
      · have hlt2 : k < m.length := by omega
        obtain ⟨g, rfl, z0, c0, c1, c2⟩ := at_ins (HA.out.below (HBL.out.mono hB)) hlt
        obtain ⟨g', rfl, z1, d0, d1, d2⟩ := at_ins (HB.out.below (HBL.out.mono hB')) hlt2
        have hq := fun W => ins_neq l[k] m[k] W
        have hg := fun op a b W => ins_guard l[k] m[k] op a b W
        unfold insVal at hq hg
        by_cases hx : l[k] = m[k]
        · have HN := Lib.hid (show l.take (k + 1) = m.take (k + 1) from by
            rw [List.take_succ_eq_append_getElem hlt, List.take_succ_eq_append_getElem hlt2, HT.out, hx])
          rw [show decide (l[k] = m[k]) = true from decide_eq_true hx] at hq
          clear hx
          generalize l[k] = x at *
          generalize m[k] = y at *
          go_wp2
          go_region
          go_wp2
          go_roundw
          case rel => exact ⟨⟨k + 1, by omega, HN.out, by go_num⟩, HBL.out.drew⟩
          case measure => simp [intOf]; omega
        · have HN := Lib.hid (show decide (l = m) = false from by rw [decide_eq_false_iff_not]; intro h; subst h; exact hx rfl)
          rw [show decide (l[k] = m[k]) = false from decide_eq_false hx] at hq
          clear hx
          generalize l[k] = x at *
          generalize m[k] = y at *
          go_wp2
          go_region
          go_wp2
          go_ret
          exact ⟨congrArg (fun b => Ending.returned (.bool b)) HN.out.symm, HBL.out.drew⟩
      · have HN := Lib.hid (show decide (l = m) = true from by
          rw [decide_eq_true_iff]
          have h := HT.out
          rw [List.take_of_length_le (by omega), List.take_of_length_le (by omega)] at h
          exact h)
        go_wp2
        go_ret
        exact ⟨congrArg (fun b => Ending.returned (.bool b)) HN.out.symm, HBL.out⟩
  · have hlb : ((l.length : Int) != (m.length : Int)) = true := by simp; omega
    have HN := Lib.hid (show decide (l = m) = false from by rw [decide_eq_false_iff_not]; intro h; exact hlen (by rw [h]))
    go_enter Tryz.func12, Tryz.ntmps12
    go_wp2
    go_ret
    exact ⟨congrArg (fun b => Ending.returned (.bool b)) HN.out.symm, Below.refl _ _⟩
end Go.Proofs.YtmdpfikalekmlaaGreatDoor
