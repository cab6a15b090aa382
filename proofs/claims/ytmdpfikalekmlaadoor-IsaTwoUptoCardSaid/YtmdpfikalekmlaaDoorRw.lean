/- Layer 1, the reference: Uvarint and Text. -/
import Derived.Test.YtmdpfikalekmlaaDoorWr
namespace Go.Proofs.YtmdpfikalekmlaaDoor
open Go.RowKit
set_option maxRecDepth 100000
set_option maxHeartbeats 1000000
set_option linter.unusedSimpArgs false
set_option linter.unusedVariables false

def RuvRel (n : Nat) (w : World) (bv xv : Value) (wr : World) : Prop :=
  ∃ (m : Nat) (pre : List UInt8), xv = .int .u64 (m : Int) ∧ m ≤ n ∧ pre ++ uvL m = uvL n ∧ OwnB wr w.heap.size bv pre ∧ Below w.heap.size w wr
theorem rfuvarint_any (n : Nat) (w : World) (hn : n < 18446744073709551616) :
    Calls Tryd.prog 31 #[.int .u64 (n : Int)] w fun e w' => ∃ v, e = .returned v ∧ OwnB w' w.heap.size v (uvL n) ∧ Below w.heap.size w w' := by
  have HL := Lib.hid (uvL_len64 hn)
  go_enter Tryd.func31, Tryd.ntmps31
  go_wp2
  go_loopw [3, 0] (fun bv xv wr => RuvRel n w bv xv wr) (fun _ xv _ => (intOf xv).toNat)
  case atStart => exact ⟨n, [], rfl, Nat.le_refl _, rfl, OwnB.lit0 w (Nat.le_refl _), (Below.refl _ _).alloc (Nat.le_refl _) _⟩
  case round =>
    obtain ⟨m, pre, rfl, hm, hp, ho, hb⟩ := hrel
    have hpl : pre.length ≤ 10 := by have := HL.out; rw [← hp] at this; simp at this ⊢; omega
    have HO := Lib.hid ho
    have HP := Lib.hid hp
    have HB := Lib.hid hb
    have hsz := hb.size
    clear ho hp hb
    by_cases hs : m < 128
    · have HS := Lib.hid hs
      have hmm : (m : Int) % 256 = m := by omega
      go_wp2_with (at_builtin; refine OwnB.appendAt HO.out _ _ rfl _ _ rfl rfl rfl ?_ ?_ ?_ hsz ?_ ?_)
      all_goals first | omega | exact (World.size_alloc ..).symm | skip
      intro v' w' h2' h3' hk'
      have H2 := Lib.hid h2'
      have H3 := Lib.hid h3'
      clear h2' h3' hk'
      go_wp2
      go_ret
      refine ⟨v', rfl, ?_, HB.out.trans H3.out⟩
      have := H2.out
      rw [← HP.out, uvL_small HS.out]
      simpa using this
    · have HS := Lib.hid hs
      have h128 : 128 ≤ m := by omega
      go_wp2_with (at_builtin; refine OwnB.appendAt HO.out _ _ rfl _ _ rfl rfl rfl ?_ ?_ ?_ hsz ?_ ?_)
      all_goals first | omega | exact (World.size_alloc ..).symm | skip
      intro v' w' h2' h3' hk'
      have H2 := Lib.hid h2'
      have H3 := Lib.hid h3'
      clear h2' h3' hk'
      go_wp2
      go_roundw
      case rel =>
        refine ⟨m / 128, pre ++ [UInt8.ofNat (m % 128 + 128)], by simp, by omega, ?_, ?_, HB.out.trans H3.out⟩
        · rw [List.append_assoc, List.singleton_append, ← uvL_big HS.out, HP.out]
        · have := H2.out
          have e : (128 + (m : Int) % 128).toNat = m % 128 + 128 := by omega
          first | (rw [e] at this; exact this) | simpa [e] using this
      case measure => simp [intOf]; omega
end Go.Proofs.YtmdpfikalekmlaaDoor
