/- Layer 20: byName. -/
import Derived.Test.YtmdpfikalekmlaaGreatDoorMr
import Derived.Deep.MidRow
namespace Go.Proofs.YtmdpfikalekmlaaGreatDoor
open Go.RowKit Go.Maps
set_option maxRecDepth 100000
set_option maxHeartbeats 4000000
set_option linter.unusedSimpArgs false
set_option linter.unusedVariables false

def tabVals : List Value := opTab.flatMap fun x => [.string ⟨x.1.toArray⟩, .int .i64 x.2]
def tabV : Value := .agg tabVals.toArray
theorem tab_index (k : Nat) (hk : k < 17) (W : World) : (Instr.index 99 tabV (.int .i64 (k : Int))).run Tryz.prog W = .ok (.agg #[.string (str (opName k)), .int .i64 (opArgs k)]) W := by
  rcases (by omega : k = 0 ∨ k = 1 ∨ k = 2 ∨ k = 3 ∨ k = 4 ∨ k = 5 ∨ k = 6 ∨ k = 7 ∨ k = 8 ∨ k = 9 ∨ k = 10 ∨ k = 11 ∨ k = 12 ∨ k = 13 ∨ k = 14 ∨ k = 15 ∨ k = 16) with rfl | rfl | rfl | rfl | rfl | rfl | rfl | rfl | rfl | rfl | rfl | rfl | rfl | rfl | rfl | rfl | rfl
  all_goals kernel_rfl
theorem tab_range {w : World} (h : TabEnv w) : w.rangeAt 17 0 tabVals := by
  intro j v hj
  rw [Nat.zero_add]
  have hl : j < 34 := by
    have := (List.getElem?_eq_some_iff.1 hj).1
    exact this
  rcases (by omega : j = 0 ∨ j = 1 ∨ j = 2 ∨ j = 3 ∨ j = 4 ∨ j = 5 ∨ j = 6 ∨ j = 7 ∨ j = 8 ∨ j = 9 ∨ j = 10 ∨ j = 11 ∨ j = 12 ∨ j = 13 ∨ j = 14 ∨ j = 15 ∨ j = 16 ∨ j = 17 ∨ j = 18 ∨ j = 19 ∨ j = 20 ∨ j = 21 ∨ j = 22 ∨ j = 23 ∨ j = 24 ∨ j = 25 ∨ j = 26 ∨ j = 27 ∨ j = 28 ∨ j = 29 ∨ j = 30 ∨ j = 31 ∨ j = 32 ∨ j = 33) with rfl | rfl | rfl | rfl | rfl | rfl | rfl | rfl | rfl | rfl | rfl | rfl | rfl | rfl | rfl | rfl | rfl | rfl | rfl | rfl | rfl | rfl | rfl | rfl | rfl | rfl | rfl | rfl | rfl | rfl | rfl | rfl | rfl | rfl
  · cases hj; exact h.name 0 (by decide)
  · cases hj; exact h.args 0 (by decide)
  · cases hj; exact h.name 1 (by decide)
  · cases hj; exact h.args 1 (by decide)
  · cases hj; exact h.name 2 (by decide)
  · cases hj; exact h.args 2 (by decide)
  · cases hj; exact h.name 3 (by decide)
  · cases hj; exact h.args 3 (by decide)
  · cases hj; exact h.name 4 (by decide)
  · cases hj; exact h.args 4 (by decide)
  · cases hj; exact h.name 5 (by decide)
  · cases hj; exact h.args 5 (by decide)
  · cases hj; exact h.name 6 (by decide)
  · cases hj; exact h.args 6 (by decide)
  · cases hj; exact h.name 7 (by decide)
  · cases hj; exact h.args 7 (by decide)
  · cases hj; exact h.name 8 (by decide)
  · cases hj; exact h.args 8 (by decide)
  · cases hj; exact h.name 9 (by decide)
  · cases hj; exact h.args 9 (by decide)
  · cases hj; exact h.name 10 (by decide)
  · cases hj; exact h.args 10 (by decide)
  · cases hj; exact h.name 11 (by decide)
  · cases hj; exact h.args 11 (by decide)
  · cases hj; exact h.name 12 (by decide)
  · cases hj; exact h.args 12 (by decide)
  · cases hj; exact h.name 13 (by decide)
  · cases hj; exact h.args 13 (by decide)
  · cases hj; exact h.name 14 (by decide)
  · cases hj; exact h.args 14 (by decide)
  · cases hj; exact h.name 15 (by decide)
  · cases hj; exact h.args 15 (by decide)
  · cases hj; exact h.name 16 (by decide)
  · cases hj; exact h.args 16 (by decide)
def opsTo (k : Nat) : List UInt8 → Option Int := fun z => match opIdx z with | some i => if i < k then some (i : Int) else none | none => none
theorem opsTo_zero : opsTo 0 = fun _ => none := by
  funext z; unfold opsTo; cases opIdx z <;> rfl
theorem opsTo_all : opsTo 17 = opsM := by
  funext z; unfold opsTo opsM
  cases h : opIdx z with
  | none => rfl
  | some i => have := ((opIdx_iff _ _).1 h).1; simp [this]
theorem opsTo_succ {k : Nat} (hk : k < 17) : (fun z => if z = (str (opName k)).data.toList then some (k : Int) else opsTo k z) = opsTo (k + 1) := by
  funext z
  rw [str_data]
  by_cases hz : z = opName k
  · rw [if_pos hz]
    unfold opsTo
    rw [(opIdx_iff z k).2 ⟨hk, hz⟩]
    simp
  · rw [if_neg hz]
    unfold opsTo
    cases h : opIdx z with
    | none => rfl
    | some i =>
      have hi : i ≠ k := fun e => by
        subst e
        exact hz ((opIdx_iff z i).1 h).2
      simp only []
      by_cases h1 : i < k
      · rw [if_pos h1, if_pos (by omega)]
      · rw [if_neg h1, if_neg (by omega)]
theorem MapSI.alloc {w : World} {b n : Nat} {m : List UInt8 → Option Int} (h : MapSI w b n m) (o : Obj) : MapSI (w.alloc o) b n m := h.below ((Below.refl _ _).alloc (Nat.le_refl _) _)
def BnRel (w : World) (iv : Value) (wr : World) : Prop := ∃ k : Nat, k ≤ 17 ∧ iv = .int .i64 (k : Int) ∧ MapSI wr w.heap.size k (opsTo k) ∧ Below w.heap.size w wr
theorem opName_small {k : Nat} (hk : k < 17) : (opName k).length ≤ 6 := by
  have : ∀ j, j < 17 → (opName j).length ≤ 6 := by decide
  exact this k hk
theorem byName_any (w : World) (hT : TabEnv w) :
    Calls Tryz.prog 17 #[] w fun e w' => e = .returned (.map (some w.heap.size)) ∧ MapSI w' w.heap.size 17 opsM ∧ Below w.heap.size w w' := by
  have HR := Lib.hid (tab_range (hT.below ((Below.refl w.heap.size w).alloc (Nat.le_refl _) (.map #[] 0))))
  have hmk : ∀ W, (Instr.makeMap 55 none).run Tryz.prog W = .ok (.map (some W.heap.size)) (W.alloc (.map #[] 0)) := by
    intro W
    simp [Instr.makeMap, run_underlying Tryz.underlying55]
  go_enter Tryz.func17, Tryz.ntmps17
  go_wp2_with (refine wpList_load_mid rfl 99 _ rfl 17 0 rfl tabVals _ HR.out Tryz.underlying99 rfl (by kernel_rfl) ?_)
  have HX := Lib.hid tab_index
  have e0 : (Value.agg tabVals.toArray) = tabV := rfl
  rw [e0]
  clear e0 hmk
  generalize tabV = tv at *
  go_loopw [6] (fun iv wr => BnRel w iv wr) (fun iv _ => 17 - (intOf iv).toNat)
  case atStart => exact ⟨0, by omega, rfl, by rw [opsTo_zero]; exact MapSI.made w, (Below.refl _ _).alloc (Nat.le_refl _) _⟩
  case round =>
    obtain ⟨k, hk, rfl, hm, hb⟩ := hrel
    have HM := Lib.hid hm; have HB := Lib.hid hb
    have hBr := hb.size
    clear hm hb
    by_cases hlt : k < 17
    · have hix := fun W => HX.out k hlt W
      have hsm := opName_small hlt
      have HN := Lib.hid (opsTo_succ hlt)
      have hwk : (Lit.int .i64 (k : Int)).wf = true := by
        have : ∀ j : Nat, j < 17 → (Lit.int .i64 (j : Int)).wf = true := by decide
        exact this k hlt
      generalize opName k = nm at *
      generalize opArgs k = na at *
      have hcz : (wr.alloc (.cells #[.string (str nm), .int .i64 na] 98)).cell? ⟨wr.heap.size, 0, none⟩ = some (.string (str nm)) := by rw [World.cell?_alloc_new]; rfl
      have HA := Lib.hid (HM.out.alloc (.cells #[.string (str nm), .int .i64 na] 98))
      have HBA := Lib.hid (HB.out.alloc hBr (.cells #[.string (str nm), .int .i64 na] 98))
      go_wp2_with (refine MapSI.store HA.out rfl _ _ _ rfl (str nm) (k : Int) rfl rfl rfl (by rw [str_size]; unfold maxLen; omega) (by unfold maxLen; omega) hwk ?_; intro w2 hm2 hg2; have HM2 := Lib.hid hm2; have HB2 := Lib.hid (HBA.out.grown hg2 (Nat.le_trans hBr (by rw [World.size_alloc]; omega)) (fun g hg => by cases hg; exact Nat.le_refl _)); clear hm2 hg2)
      go_roundw
      case rel => exact ⟨k + 1, hlt, by go_num, by have h := HM2.out; rw [HN.out] at h; exact h, HB2.out⟩
      case measure => simp [intOf]; omega
    · obtain rfl : k = 17 := by omega
      have HM2 := Lib.hid (show MapSI wr w.heap.size 17 opsM from by rw [← opsTo_all]; exact HM.out)
      go_wp2
      go_ret
      exact ⟨rfl, HM2.out, HB.out⟩
end Go.Proofs.YtmdpfikalekmlaaGreatDoor
