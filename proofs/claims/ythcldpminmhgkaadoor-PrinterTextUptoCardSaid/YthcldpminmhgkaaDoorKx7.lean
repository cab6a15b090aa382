/- Merged for a claim by shake.py: Lqu -/
import Derived.Test.YthcldpminmhgkaaDoorKxA
import Derived.Test.YthcldpminmhgkaaDoorKx6
set_option maxRecDepth 100000
set_option maxHeartbeats 1000000
section
namespace Go.Proofs.YthcldpminmhgkaaDoor
open Go.RowKit
def QRel (s : ByteArray) (w : World) (v i : Value) (wr : World) : Prop :=
 ∃ k : Nat, k ≤ s.size ∧ i = .int .i64 k ∧ OwnB wr w.heap.size v (quoteTo s.data.toList k) ∧ Below w.heap.size w wr
theorem quote_any (s : ByteArray) (w : World) (hs : s.size ≤ 900000000000) :
  Calls Tryd.prog 78 #[.string s] w (StrRet (str (quoteL s.data.toList)) w) := by
 go_enter Tryd.func78, Tryd.ntmps78
 go_wp2
 go_loopw [3, 4] (fun v i wr => QRel s w v i wr) (fun _ i _ => s.size - (intOf i).toNat)
 case atStart => exact ⟨0, by omega, rfl, OwnB.lit1 w (Nat.le_refl _) 34, (Below.refl _ _).alloc (Nat.le_refl _) _⟩
 case round =>
  obtain ⟨k, hk, rfl, hob, hb⟩ := hrel
  have HB := LH hob; clear hob
  have hBr := hb.size
  have hlq : (quoteTo s.data.toList k).length ≤ 1800000000001 := by have := quoteTo_length s.data.toList k; omega
  by_cases hlt : k < s.size
  ·have hbx := u8_lt s[k]
   have HG := LH (getD_byte s k hlt)
   have hcases : (((s[k].toNat : Int) == 34) = true ∧ qesc s[k] = [92, s[k]]) ∨ (((s[k].toNat : Int) == 34) = false ∧ ((s[k].toNat : Int) == 92) = true ∧ qesc s[k] = [92, s[k]]) ∨ (((s[k].toNat : Int) == 34) = false ∧ ((s[k].toNat : Int) == 92) = false ∧ qesc s[k] = [s[k]]) := by
    rw [show ((s[k].toNat : Int) == 34) = (s[k] == 34) from byte_beq _ 34, show ((s[k].toNat : Int) == 92) = (s[k] == 92) from byte_beq _ 92]
    unfold qesc
    by_cases h3 : s[k] = 34 <;> by_cases h4 : s[k] = 92 <;> simp [h3, h4]
   rcases hcases with ⟨g1, g2⟩ | ⟨g1, g3, g2⟩ | ⟨g1, g3, g2⟩
   ·have HX := LH g2; clear g2
    go_wp2_with (at_builtin; refine OwnB.appendAt HB.out _ _ rfl _ _ rfl rfl rfl ?_ ?_ ?_ hBr ?_ ?_)
    all_goals first | omega | exact (World.size_alloc ..).symm | skip
    intro v' w' h2 h3 h3k
    have H2 := LH h2; clear h2 h3k
    have hbB := hb.trans h3
    go_wp2_with (at_builtin; refine OwnB.appendAt H2.out _ _ rfl _ _ rfl rfl rfl ?_ ?_ ?_ hbB.size ?_ ?_)
    all_goals first | omega | exact (World.size_alloc ..).symm | (rw [List.length_append, List.length_singleton]; omega) | skip
    intro v2 w2 h4 h5 h5k
    have H4 := LH h4
    clear h4 h5k
    go_wp2
    go_roundw
    case rel =>
     refine ⟨k + 1, by omega, by go_num, ?_, hbB.trans h5⟩
     rw [quoteTo, HG.out, HX.out]
     simpa [ofNat_byte] using H4.out
    case measure => simp [intOf]; omega
   ·have HX := LH g2; clear g2
    go_wp2_with (at_builtin; refine OwnB.appendAt HB.out _ _ rfl _ _ rfl rfl rfl ?_ ?_ ?_ hBr ?_ ?_)
    all_goals first | omega | exact (World.size_alloc ..).symm | skip
    intro v' w' h2 h3 h3k
    have H2 := LH h2; clear h2 h3k
    have hbB := hb.trans h3
    go_wp2_with (at_builtin; refine OwnB.appendAt H2.out _ _ rfl _ _ rfl rfl rfl ?_ ?_ ?_ hbB.size ?_ ?_)
    all_goals first | omega | exact (World.size_alloc ..).symm | (rw [List.length_append, List.length_singleton]; omega) | skip
    intro v2 w2 h4 h5 h5k
    have H4 := LH h4
    clear h4 h5k
    go_wp2
    go_roundw
    case rel =>
     refine ⟨k + 1, by omega, by go_num, ?_, hbB.trans h5⟩
     rw [quoteTo, HG.out, HX.out]
     simpa [ofNat_byte] using H4.out
    case measure => simp [intOf]; omega
   ·have HX := LH g2; clear g2
    go_wp2_with (at_builtin; refine OwnB.appendAt HB.out _ _ rfl _ _ rfl rfl rfl ?_ ?_ ?_ hBr ?_ ?_)
    all_goals first | omega | exact (World.size_alloc ..).symm | skip
    intro v2 w2 h4 h5 h5k
    have H4 := LH h4
    clear h4 h5k
    go_wp2
    go_roundw
    case rel =>
     refine ⟨k + 1, by omega, by go_num, ?_, hb.trans h5⟩
     rw [quoteTo, HG.out, HX.out]
     simpa [ofNat_byte] using H4.out
    case measure => simp [intOf]; omega
  ·have HE := LH (show quoteL s.data.toList = quoteTo s.data.toList k ++ [34] from by unfold quoteL; rw [← ba_size, show s.size = k from by omega])
   go_wp2_with (at_builtin; refine OwnB.appendAt HB.out _ _ rfl _ _ rfl rfl rfl ?_ ?_ ?_ hBr ?_ ?_)
   all_goals first | omega | exact (World.size_alloc ..).symm | skip
   intro v2 w2 h4 h5 h5k
   have HC := LH (OwnB.conv h4)
   clear h4 h5k
   go_wp2_with fail
   simp only [HC.out, Result.andThen]
   go_wp2
   go_ret
   exact ⟨by rw [HE.out]; rfl, hb.trans h5⟩
end Go.Proofs.YthcldpminmhgkaaDoor
end
