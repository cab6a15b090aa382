/- Layer 20: Args and Encode. -/
import Derived.Test.YtmdpfikalekmlaaDoorIp
import Derived.Test.YtmdpfikalekmlaaDoorRd
namespace Go.Proofs.YtmdpfikalekmlaaDoor
open Go.RowKit
set_option maxRecDepth 100000
set_option maxHeartbeats 4000000
set_option linter.unusedSimpArgs false
set_option linter.unusedVariables false

def insS : Shape Ins := { tS := 22, tE := 64, size := 3, bytes := 24, enc := fun x => [.int .i64 x.op, .int .u64 (x.a : Int), .int .u64 (x.b : Int)], zero := .agg #[.int .i64 0, .int .u64 0, .int .u64 0] }
theorem insSOk : insS.Ok where
  under := Tryd.underlying22
  info := by kernel_rfl
  zs := rfl
  pos := by decide
  len := fun _ => rfl
  one := fun x u hu => by
    simp only [insS, List.mem_cons, List.not_mem_nil, or_false] at hu
    rcases hu with rfl | rfl | rfl <;> rfl
  small := by decide
theorem at_ins {w : World} {B : Nat} {A : Option Addr} {n cap : Nat} {l : List Ins} (h : RdL insS w B (.slice A n cap) l) {k : Nat} (hk : k < l.length) :
    ∃ a, A = some a ∧ (a.add (k * 3)).block < B ∧ w.cell? (a.add (k * 3)) = some (.int .i64 l[k].op) ∧ w.cell? ⟨(a.add (k * 3)).block, (a.add (k * 3)).off + 1, none⟩ = some (.int .u64 (l[k].a : Int)) ∧ w.cell? ⟨(a.add (k * 3)).block, (a.add (k * 3)).off + 2, none⟩ = some (.int .u64 (l[k].b : Int)) := by
  obtain ⟨a, rfl, hb, h0, h⟩ := h.at2 insSOk hk
  exact ⟨a, rfl, hb, h0 _ rfl, h 0 _ (by decide) rfl, h 1 _ (by decide) rfl⟩
theorem args_any (op : Int) (w : World) (hT : TabEnv w) :
    Calls Tryd.prog 23 #[.int .i64 op] w fun e w' => w = w' ∧ e = .returned (match argsN op with | none => .tuple #[.int .i64 0, .bool false] | some n => .tuple #[.int .i64 (n : Int), .bool true]) := by
  cases h : argsN op with
  | none =>
    have h2 := argsN_none h
    clear h
    by_cases hn : op < 0
    · go_enter Tryd.func23, Tryd.ntmps23
      go_wp2
      go_ret2
      exact ⟨rfl, rfl⟩
    · have h17 : 17 ≤ op := by omega
      go_enter Tryd.func23, Tryd.ntmps23
      go_wp2
      go_ret2
      exact ⟨rfl, rfl⟩
  | some n =>
    obtain ⟨h0, h1, h2, h3⟩ := argsN_some h
    obtain ⟨o, rfl⟩ : ∃ o : Nat, op = (o : Int) := ⟨op.toNat, by omega⟩
    have c0 := hT.args o (by omega)
    rw [show opArgs o = (n : Int) from by rw [← h2]; rfl] at c0
    have c1 : w.cell? ⟨16, o * 2 + 1, none⟩ = some (.int .i64 (n : Int)) := by rw [Nat.mul_comm]; exact c0
    have hlt := hT.lt
    clear h h2 hT
    go_enter Tryd.func23, Tryd.ntmps23
    go_wp2
    go_ret2
    exact ⟨rfl, rfl⟩
end Go.Proofs.YtmdpfikalekmlaaDoor
