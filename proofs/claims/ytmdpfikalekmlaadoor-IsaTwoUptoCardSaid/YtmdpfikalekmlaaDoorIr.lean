/- Layer 20, the reference: its table, Args, operands. -/
import Derived.Test.YtmdpfikalekmlaaDoorIf
import Derived.Test.YtmdpfikalekmlaaDoorRw
namespace Go.Proofs.YtmdpfikalekmlaaDoor
open Go.RowKit
set_option maxRecDepth 100000
set_option maxHeartbeats 4000000
set_option linter.unusedSimpArgs false
set_option linter.unusedVariables false

def refCells : Array Value := (opTab.flatMap fun x => [Value.string ⟨x.1.toArray⟩, Value.int .i64 x.2]).toArray
theorem refCells_get : ∀ (o : Nat), o < 17 → refCells[o * 2]? = some (.string ⟨(opName o).toArray⟩) ∧ refCells[o * 2 + 1]? = some (.int .i64 (opArgs o))
  | 0, _ => ⟨rfl, rfl⟩
  | 1, _ => ⟨rfl, rfl⟩
  | 2, _ => ⟨rfl, rfl⟩
  | 3, _ => ⟨rfl, rfl⟩
  | 4, _ => ⟨rfl, rfl⟩
  | 5, _ => ⟨rfl, rfl⟩
  | 6, _ => ⟨rfl, rfl⟩
  | 7, _ => ⟨rfl, rfl⟩
  | 8, _ => ⟨rfl, rfl⟩
  | 9, _ => ⟨rfl, rfl⟩
  | 10, _ => ⟨rfl, rfl⟩
  | 11, _ => ⟨rfl, rfl⟩
  | 12, _ => ⟨rfl, rfl⟩
  | 13, _ => ⟨rfl, rfl⟩
  | 14, _ => ⟨rfl, rfl⟩
  | 15, _ => ⟨rfl, rfl⟩
  | 16, _ => ⟨rfl, rfl⟩
  | n + 17, h => absurd h (by omega)
theorem rtable_any (w : World) : Calls Tryd.prog 51 #[] w fun e w' => e = .returned (.slice (some ⟨w.heap.size, 0, none⟩) 17 17) ∧ w' = w.alloc (.cells refCells 110) := by
  go_enter Tryd.func51, Tryd.ntmps51
  go_wp2
  go_ret
  exact ⟨rfl, rfl⟩
theorem rargs_any (op : Int) (w : World) :
    Calls Tryd.prog 24 #[.int .i64 op] w fun e w' => Below w.heap.size w w' ∧ e = .returned (match argsN op with | none => .tuple #[.int .i64 0, .bool false] | some n => .tuple #[.int .i64 (n : Int), .bool true]) := by
  have hb : Below w.heap.size w (w.alloc (.cells refCells 110)) := (Below.refl _ _).alloc (Nat.le_refl _) _
  have HB := Lib.hid hb
  clear hb
  cases h : argsN op with
  | none =>
    have h2 := argsN_none h
    clear h
    by_cases hn : op < 0
    · go_enter Tryd.func24, Tryd.ntmps24
      go_wp2_with fail
      refine (rtable_any w).mono ?_
      rintro e w1 ⟨rfl, hw1⟩
      have HB1 : Hid (Below w.heap.size w w1) := Lib.hid (by rw [hw1]; exact HB.out)
      clear hw1
      go_wp2
      go_ret2
      exact ⟨HB1.out, rfl⟩
    · have h17 : 17 ≤ op := by omega
      go_enter Tryd.func24, Tryd.ntmps24
      go_wp2_with fail
      refine (rtable_any w).mono ?_
      rintro e w1 ⟨rfl, hw1⟩
      have HB1 : Hid (Below w.heap.size w w1) := Lib.hid (by rw [hw1]; exact HB.out)
      clear hw1
      go_wp2
      go_ret2
      exact ⟨HB1.out, rfl⟩
  | some n =>
    obtain ⟨h0, h1, h2, h3⟩ := argsN_some h
    obtain ⟨o, rfl⟩ : ∃ o : Nat, op = (o : Int) := ⟨op.toNat, by omega⟩
    have HO : Hid (opArgs o = (n : Int)) := Lib.hid (by rw [← h2]; rfl)
    clear h h2
    go_enter Tryd.func24, Tryd.ntmps24
    go_wp2_with fail
    refine (rtable_any w).mono ?_
    rintro e w1 ⟨rfl, hw1⟩
    have HB1 : Hid (Below w.heap.size w w1) := Lib.hid (by rw [hw1]; exact HB.out)
    have c1 : w1.cell? ⟨w.heap.size, o * 2 + 1, none⟩ = some (.int .i64 (n : Int)) := by rw [hw1, World.cell?_alloc_new, ← HO.out]; exact (refCells_get o (by omega)).2
    clear hw1
    go_wp2
    go_ret2
    exact ⟨HB1.out, rfl⟩
theorem operands_any (x : Ins) (w : World) :
    Calls Tryd.prog 30 #[.agg #[.int .i64 x.op, .int .u64 (x.a : Int), .int .u64 (x.b : Int)]] w fun e w' => Below w.heap.size w w' ∧
      ((insOk x = false ∧ e = .returned (.tuple #[.slice none 0 0, .bool false])) ∨ (insOk x = true ∧ ∃ n g, argsN x.op = some n ∧ e = .returned (.tuple #[.slice (some ⟨g, 0, none⟩) n 2, .bool true]) ∧ w.heap.size ≤ g ∧ Blk w' g 62 #[.int .u64 (x.a : Int), .int .u64 (x.b : Int)])) := by
  obtain ⟨op, a, b⟩ := x
  have hb0 : Below w.heap.size w (w.alloc (.cells #[.int .i64 op, .int .u64 (a : Int), .int .u64 (b : Int)] 64)) := (Below.refl _ _).alloc (Nat.le_refl _) _
  have HB0 := Lib.hid hb0
  clear hb0
  go_enter Tryd.func30, Tryd.ntmps30
  go_wp2_with fail
  refine (rargs_any op _).mono ?_
  rintro e w1 ⟨hb1, he⟩
  have hfb := (Blk.new w 64 #[.int .i64 op, .int .u64 (a : Int), .int .u64 (b : Int)]).belowW hb1
  have c1 := hfb.cell 1
  have c2 := hfb.cell 2
  simp only [List.getElem?_toArray, List.getElem?_cons_zero, List.getElem?_cons_succ] at c1 c2
  have HB1 := Lib.hid (HB0.out.trans (hb1.mono (by rw [World.size_alloc]; omega)))
  have hsz := HB1.out.size
  clear hb1 hfb
  cases ha : argsN op with
  | none =>
    rw [ha] at he
    subst he
    have HI := Lib.hid (insOk_none (x := ⟨op, a, b⟩) ha)
    clear ha
    go_wp2
    go_ret2
    exact ⟨HB1.out, .inl ⟨HI.out, rfl⟩⟩
  | some n =>
    rw [ha] at he
    subst he
    have hn2 := (argsN_some ha).2.2.2
    have HI := Lib.hid (insOk_some (x := ⟨op, a, b⟩) ha)
    have HA := Lib.hid ha
    clear ha
    have hbad : (insOk ⟨op, a, b⟩ = false ∧ ((n = 0 ∧ a ≠ 0) ∨ ((n = 0 ∧ a = 0 ∨ n = 1) ∧ b ≠ 0))) ∨ (insOk ⟨op, a, b⟩ = true ∧ ((n = 0 ∧ a = 0 ∧ b = 0) ∨ (n = 1 ∧ b = 0) ∨ n = 2)) := by
      rw [HI.out]
      simp only []
      rcases Nat.lt_or_ge n 1 with h | h
      · obtain rfl : n = 0 := by omega
        by_cases h1 : a = 0 <;> by_cases h2 : b = 0 <;> simp [h1, h2]
      · rcases Nat.lt_or_ge n 2 with h' | h'
        · obtain rfl : n = 1 := by omega
          by_cases h2 : b = 0 <;> simp [h2]
        · obtain rfl : n = 2 := by omega
          simp
    rcases hbad with ⟨hi, hc⟩ | ⟨hi, hc⟩
    · have HII := Lib.hid hi
      clear hi
      rcases hc with ⟨rfl, hane⟩ | ⟨⟨rfl, rfl⟩ | rfl, hbne⟩
      · have hx : ((a : Int) == 0) = false := by rw [beq_eq_false_iff_ne]; omega
        clear hane
        go_wp2
        go_ret2
        exact ⟨HB1.out, .inl ⟨HII.out, rfl⟩⟩
      · have hx : ((b : Int) == 0) = false := by rw [beq_eq_false_iff_ne]; omega
        clear hbne
        go_wp2
        go_ret2
        exact ⟨HB1.out, .inl ⟨HII.out, rfl⟩⟩
      · have hx : ((b : Int) == 0) = false := by rw [beq_eq_false_iff_ne]; omega
        clear hbne
        go_wp2
        go_ret2
        exact ⟨HB1.out, .inl ⟨HII.out, rfl⟩⟩
    · have HII := Lib.hid hi
      clear hi
      rcases hc with ⟨rfl, rfl, rfl⟩ | ⟨rfl, rfl⟩ | rfl
      all_goals
        go_wp2
        go_ret2
        refine ⟨HB1.out.alloc hsz _, .inr ⟨HII.out, _, w1.heap.size, HA.out, rfl, hsz, Blk.new w1 _ _⟩⟩
end Go.Proofs.YtmdpfikalekmlaaDoor
