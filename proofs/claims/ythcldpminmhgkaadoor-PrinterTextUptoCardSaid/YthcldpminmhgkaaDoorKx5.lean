/- Merged for a claim by shake.py: St Sc Bp Lsg Lpl -/
import Derived.Test.YthcldpminmhgkaaDoorKxA
import Derived.Test.YthcldpminmhgkaaDoorKx1
import Derived.Test.YthcldpminmhgkaaDoorKx3
import Derived.Test.YthcldpminmhgkaaDoorKx4
set_option maxRecDepth 100000
set_option maxHeartbeats 1000000
set_option linter.unusedSimpArgs false
section
namespace Go.Proofs.YthcldpminmhgkaaDoor
open Go.RowKit
def sTok (s : ByteArray) (i : Nat) : Option Lx := (tokOf (s.data.toList.drop i)).map fun k => k.lx i
section
variable {s : ByteArray} {i : Nat}
theorem sTok_single (hi : i < s.size) (h : singleK s[i] ≠ 0) : sTok s i = some ⟨singleK s[i], [], 0, i, i + 1⟩ := by
 unfold sTok; rw [dropB s hi, tokOf, if_pos h]; rfl
theorem sTok_quote (hi : i < s.size) (h : singleK s[i] = 0) (h1 : s[i] = 34) : sTok s i = qTok s i := by
 unfold sTok qTok; rw [dropB s hi, tokOf, if_neg (by simp [h]), if_pos h1, Option.map_map]
 congr 1
 funext x
 simp only [Function.comp, Tk.lx, Lx.mk.injEq, true_and]
 omega
theorem numTk_lx (kind : Int) (l : List UInt8) (m i : Nat) : (numTk kind l m).map (fun k => k.lx i) = if numOkB l = true then some ⟨kind, [], ncap (digs l), i, i + m + (digs l).length⟩ else none := by
 unfold numTk
 split
 ·simp only [Option.map_some, Tk.lx]; rw [Nat.add_assoc]
 ·rfl
theorem sTok_const (hi : i < s.size) (hi2 : i + 1 < s.size) (h : singleK s[i] = 0) (h1 : s[i] = 94) (h2 : s[i + 1] = 61) : sTok s i = if numOkB (s.data.toList.drop (i + 2)) = true then some ⟨19, [], ncap (digs (s.data.toList.drop (i + 2))), i, i + 2 + (digs (s.data.toList.drop (i + 2))).length⟩ else none := by
 unfold sTok; rw [dropB s hi, tokOf, if_neg (by simp [h]), if_neg (by rw [h1]; decide), if_pos h1, dropB s hi2, if_pos (by simp [h2]), List.drop_succ_cons, List.drop_zero, numTk_lx]
theorem sTok_boost (hi : i < s.size) (h : singleK s[i] = 0) (h1 : s[i] = 94) (h2 : ∀ hi2 : i + 1 < s.size, s[i + 1] ≠ 61) : sTok s i = if numOkB (s.data.toList.drop (i + 1)) = true then some ⟨18, [], ncap (digs (s.data.toList.drop (i + 1))), i, i + 1 + (digs (s.data.toList.drop (i + 1))).length⟩ else none := by
 unfold sTok; rw [dropB s hi, tokOf, if_neg (by simp [h]), if_neg (by rw [h1]; decide), if_pos h1, if_neg ?_, numTk_lx]
 intro hh
 by_cases hi2 : i + 1 < s.size
 ·rw [dropB s hi2] at hh; exact h2 hi2 (by simpa using hh)
 ·rw [dropB_nil s (by omega)] at hh; cases hh
theorem sTok_tilde0 (hi : i < s.size) (h : singleK s[i] = 0) (h1 : s[i] = 126) (h2 : digs (s.data.toList.drop (i + 1)) = []) : sTok s i = some ⟨20, [], -1, i, i + 1⟩ := by
 unfold sTok; rw [dropB s hi, tokOf, if_neg (by simp [h]), if_neg (by rw [h1]; decide), if_neg (by rw [h1]; decide), if_pos h1, if_pos h2]; rfl
theorem sTok_tilde (hi : i < s.size) (h : singleK s[i] = 0) (h1 : s[i] = 126) (h2 : digs (s.data.toList.drop (i + 1)) ≠ []) : sTok s i = if numOkB (s.data.toList.drop (i + 1)) = true then some ⟨20, [], ncap (digs (s.data.toList.drop (i + 1))), i, i + 1 + (digs (s.data.toList.drop (i + 1))).length⟩ else none := by
 unfold sTok; rw [dropB s hi, tokOf, if_neg (by simp [h]), if_neg (by rw [h1]; decide), if_neg (by rw [h1]; decide), if_pos h1, if_neg h2, numTk_lx]
theorem sTok_least (hi : i < s.size) (h : singleK s[i] = 0) (h1 : s[i] = 64) : sTok s i = if numOkB (s.data.toList.drop (i + 1)) = true then some ⟨21, [], ncap (digs (s.data.toList.drop (i + 1))), i, i + 1 + (digs (s.data.toList.drop (i + 1))).length⟩ else none := by
 unfold sTok; rw [dropB s hi, tokOf, if_neg (by simp [h]), if_neg (by rw [h1]; decide), if_neg (by rw [h1]; decide), if_neg (by rw [h1]; decide), if_pos h1, numTk_lx]
theorem sTok_run (hi : i < s.size) (h : singleK s[i] = 0) (h1 : s[i] ≠ 34) (h2 : s[i] ≠ 94) (h3 : s[i] ≠ 126) (h4 : s[i] ≠ 64) : sTok s i = rTok s i := by
 unfold sTok rTok; rw [dropB s hi, tokOf, if_neg (by simp [h]), if_neg h1, if_neg h2, if_neg h3, if_neg h4]
end
theorem RetLx_num {w w' : World} {e : Ending} {x : Lx} {B : Bool} {r : Option Lx} (hb : Below w.heap.size w w') (he : e = .returned (.tuple #[lxVal x, .bool B])) (hr : r = if B = true then some x else none) : RetLx w r e w' := by
 subst hr
 refine ⟨hb, ?_⟩
 cases B
 ·exact ⟨x, he⟩
 ·exact he
theorem scan_any (s : ByteArray) (i : Nat) (w : World) (hs : s.size ≤ 900000000000) (hi : i < s.size) (hE : ClsEnv w) :
  Calls Tryd.prog 62 #[.string s, .int .i64 (i : Int)] w (RetLx w (sTok s i)) := by
 have HI := LH hi
 have HE := LH hE
 clear hE
 have hA := Blk5.new w (.int .i64 0) (.string ⟨#[]⟩) (.int .i64 0) (.int .i64 0) (.int .i64 0)
 have hB := Blk5.new (w.alloc (.cells #[.int .i64 0, .string ⟨#[]⟩, .int .i64 0, .int .i64 0, .int .i64 0] 74)) (.int .i64 0) (.string ⟨#[]⟩) (.int .i64 0) (.int .i64 i) (.int .i64 0)
 have b1 : Below w.heap.size w (w.alloc (.cells #[.int .i64 0, .string ⟨#[]⟩, .int .i64 0, .int .i64 0, .int .i64 0] 74)) := (Below.refl _ _).alloc (Nat.le_refl _) _
 have b2 := b1.alloc b1.size (.cells #[.int .i64 0, .string ⟨#[]⟩, .int .i64 0, .int .i64 i, .int .i64 0] 74)
 have hA2 := hA.below ((Below.refl (w.heap.size + 1) _).alloc (by simp) (.cells #[.int .i64 0, .string ⟨#[]⟩, .int .i64 0, .int .i64 i, .int .i64 0] 74)) (by simp)
 rw [show (w.alloc (.cells #[.int .i64 0, .string ⟨#[]⟩, .int .i64 0, .int .i64 0, .int .i64 0] 74)).heap.size = w.heap.size + 1 from by simp] at hB
 have hE2 := HE.out.below b2
 clear hA b1
 have hbx := u8_lt s[i]
 go_enter Tryd.func62, Tryd.ntmps62
 go_wp2
 refine wp_scope_forward 0 rfl ?_
 intro J HJ
 go_wp2_with fail
 refine (single_any s[i] _).mono ?_
 rintro e w1 ⟨rfl, rfl⟩
 generalize (w.alloc (.cells #[.int .i64 0, .string ⟨#[]⟩, .int .i64 0, .int .i64 0, .int .i64 0] 74)).alloc (.cells #[.int .i64 0, .string ⟨#[]⟩, .int .i64 0, .int .i64 i, .int .i64 0] 74) = wr at *
 have H4 := LH hA2; have H6 := LH hB; have HEr := LH hE2; have HBE := LH b2
 have hBr : w.heap.size + 2 ≤ wr.heap.size := hB.lt
 clear hA2 hB hE2 b2 HE
 obtain ⟨⟨c0, c1, c2, c3, c4⟩, f0, f1, f2, f3, f4⟩ := H6.out.facts
 obtain ⟨⟨d0, d1, d2, d3, d4⟩, e0, e1, e2, e3, e4⟩ := H4.out.facts
 by_cases hk : singleK s[i] = 0
 ·have hkb : (singleK s[i] != 0) = false := by rw [hk]; rfl
  by_cases h34 : s[i] = 34
  ·have e34b : ((s[i].toNat : Int) == 34) = true := by rw [h34]; rfl
   have HQ := LH (sTok_quote HI.out hk h34)
   clear h34 hk
   go_wp2_with fail
   have hc := quoted_any s i wr hs HI.out
   rw [← HQ.out] at hc
   refine hc.mono ?_
   clear hc
   rintro e w2 ⟨hb2, hm⟩
   obtain ⟨⟨d0, d1, d2, d3, d4⟩, e0, e1, e2, e3, e4⟩ := (H4.out.below hb2 (by omega)).facts
   have HB2 := LH (HBE.out.trans (hb2.mono (by omega)))
   clear hb2 HQ
   generalize sTok s i = R at *
   cases R with
   | none =>
    obtain ⟨x, rfl⟩ := hm
    simp only [lxVal]
    go_wp2
    refine jump_ret (bodyPost_ret (v := .tuple #[lxVal x, .bool false]) ?_ rfl ⟨?_, ?_⟩)
    ·simp [results, Tryd.results62, go_sem, lxVal, str, c0, c1, c2, c3, c4, d0, d1, d2, d3, d4]
    ·repeat (first | with_reducible refine Below.drew ?_ | with_reducible refine Below.setCell ?_ (by simp) _)
     exact HB2.out
    ·exact ⟨x, rfl⟩
   | some x =>
    cases hm
    simp only [lxVal]
    go_wp2
    refine jump_ret (bodyPost_ret (v := .tuple #[lxVal x, .bool true]) ?_ rfl ⟨?_, ?_⟩)
    ·simp [results, Tryd.results62, go_sem, lxVal, str, c0, c1, c2, c3, c4, d0, d1, d2, d3, d4]
    ·repeat (first | with_reducible refine Below.drew ?_ | with_reducible refine Below.setCell ?_ (by simp) _)
     exact HB2.out
    ·rfl
  ·have e34b : ((s[i].toNat : Int) == 34) = false := by rw [show (34 : Int) = ((34 : UInt8).toNat : Int) from rfl, byte_beq]; exact beq_eq_false_iff_ne.2 h34
   by_cases h94 : s[i] = 94
   ·have e94b : ((s[i].toNat : Int) == 94) = true := by rw [h94]; rfl
    by_cases hi2 : i + 1 < s.size
    ·have hbx2 := u8_lt s[i + 1]
     by_cases h61 : s[i + 1] = 61
     ·have e61b : ((s[i + 1].toNat : Int) == 61) = true := by rw [h61]; rfl
      have HQ := LH (sTok_const HI.out hi2 hk h94 h61)
      clear h61 h94 h34 hk
      go_wp2_with fail
      go_step3
      refine ⟨rfl, HJ.out _ _ ?_⟩
      go_wp2_with fail
      refine (number_any s (i + 2) _ (by omega) (by omega)).mono ?_
      rintro e w2 ⟨rfl, rfl⟩
      generalize numOkB (s.data.toList.drop (i + 2)) = B at *
      generalize digs (s.data.toList.drop (i + 2)) = D at *
      go_wp2
      refine jump_ret (bodyPost_ret (v := .tuple #[lxVal ⟨19, [], ncap D, i, i + 2 + D.length⟩, .bool B]) ?_ rfl (RetLx_num ?_ rfl HQ.out))
      ·simp [results, Tryd.results62, go_sem, lxVal, str, c0, c1, c2, c3, c4, d0, d1, d2, d3, d4]
      ·repeat (first | with_reducible refine Below.drew ?_ | with_reducible refine Below.setCell ?_ (by simp) _)
       exact HBE.out
     ·have e61b : ((s[i + 1].toNat : Int) == 61) = false := by rw [show (61 : Int) = ((61 : UInt8).toNat : Int) from rfl, byte_beq]; exact beq_eq_false_iff_ne.2 h61
      have HQ := LH (sTok_boost HI.out hk h94 (fun _ => h61))
      clear h61 h94 h34 hk
      go_wp2_with fail
      go_step3
      refine ⟨rfl, HJ.out _ _ ?_⟩
      go_wp2_with fail
      refine (number_any s (i + 1) _ (by omega) (by omega)).mono ?_
      rintro e w2 ⟨rfl, rfl⟩
      generalize numOkB (s.data.toList.drop (i + 1)) = B at *
      generalize digs (s.data.toList.drop (i + 1)) = D at *
      go_wp2
      refine jump_ret (bodyPost_ret (v := .tuple #[lxVal ⟨18, [], ncap D, i, i + 1 + D.length⟩, .bool B]) ?_ rfl (RetLx_num ?_ rfl HQ.out))
      ·simp [results, Tryd.results62, go_sem, lxVal, str, c0, c1, c2, c3, c4, d0, d1, d2, d3, d4]
      ·repeat (first | with_reducible refine Below.drew ?_ | with_reducible refine Below.setCell ?_ (by simp) _)
       exact HBE.out
    ·have HQ := LH (sTok_boost HI.out hk h94 (fun h => absurd h hi2))
     clear h94 h34 hk
     go_wp2_with fail
     go_step3
     refine ⟨rfl, HJ.out _ _ ?_⟩
     go_wp2_with fail
     refine (number_any s (i + 1) _ (by omega) (by omega)).mono ?_
     rintro e w2 ⟨rfl, rfl⟩
     generalize numOkB (s.data.toList.drop (i + 1)) = B at *
     generalize digs (s.data.toList.drop (i + 1)) = D at *
     go_wp2
     refine jump_ret (bodyPost_ret (v := .tuple #[lxVal ⟨18, [], ncap D, i, i + 1 + D.length⟩, .bool B]) ?_ rfl (RetLx_num ?_ rfl HQ.out))
     ·simp [results, Tryd.results62, go_sem, lxVal, str, c0, c1, c2, c3, c4, d0, d1, d2, d3, d4]
     ·repeat (first | with_reducible refine Below.drew ?_ | with_reducible refine Below.setCell ?_ (by simp) _)
      exact HBE.out
   ·have e94b : ((s[i].toNat : Int) == 94) = false := by rw [show (94 : Int) = ((94 : UInt8).toNat : Int) from rfl, byte_beq]; exact beq_eq_false_iff_ne.2 h94
    by_cases h126 : s[i] = 126
    ·have e126b : ((s[i].toNat : Int) == 126) = true := by rw [h126]; rfl
     by_cases hi2 : i + 1 < s.size
     ·have hbx2 := u8_lt s[i + 1]
      have hi3 : ((i : Int) + 1 == (s.size : Int)) = false := by rw [beq_eq_false_iff_ne]; omega
      by_cases hdg : 48 ≤ (s[i + 1].toNat : Int) ∧ (s[i + 1].toNat : Int) ≤ 57
      ·obtain ⟨g1, g2⟩ := hdg
       have HQ := LH (sTok_tilde HI.out hk h126 (by rw [dropB s hi2, digs_yes (show isDg s[i + 1] = true from by unfold isDg; rw [decide_eq_true_iff]; omega)]; simp))
       clear h94 h34 h126 hk
       go_wp2_with fail
       go_step3
       refine ⟨rfl, HJ.out _ _ ?_⟩
       go_wp2_with fail
       refine (number_any s (i + 1) _ (by omega) (by omega)).mono ?_
       rintro e w2 ⟨rfl, rfl⟩
       generalize numOkB (s.data.toList.drop (i + 1)) = B at *
       generalize digs (s.data.toList.drop (i + 1)) = D at *
       go_wp2
       refine jump_ret (bodyPost_ret (v := .tuple #[lxVal ⟨20, [], ncap D, i, i + 1 + D.length⟩, .bool B]) ?_ rfl (RetLx_num ?_ rfl HQ.out))
       ·simp [results, Tryd.results62, go_sem, lxVal, str, c0, c1, c2, c3, c4, d0, d1, d2, d3, d4]
       ·repeat (first | with_reducible refine Below.drew ?_ | with_reducible refine Below.setCell ?_ (by simp) _)
        exact HBE.out
      ·have HQ := LH (sTok_tilde0 HI.out hk h126 (by rw [dropB s hi2]; exact digs_no (show isDg s[i + 1] = false from by unfold isDg; rw [decide_eq_false_iff_not]; omega)))
       have hcc : (s[i + 1].toNat : Int) < 48 ∨ 57 < (s[i + 1].toNat : Int) := by omega
       clear hdg
       rcases hcc with hcc | hcc
       ·clear h94 h34 h126 hk
        go_wp2
        refine jump_ret (bodyPost_ret (v := .tuple #[lxVal ⟨20, [], -1, i, i + 1⟩, .bool true]) ?_ rfl ⟨?_, ?_⟩)
        ·simp [results, Tryd.results62, go_sem, lxVal, str, c0, c1, c2, c3, c4, d0, d1, d2, d3, d4]
        ·repeat (first | with_reducible refine Below.drew ?_ | with_reducible refine Below.setCell ?_ (by simp) _)
         exact HBE.out
        ·rw [HQ.out]
       ·clear h94 h34 h126 hk
        go_wp2
        refine jump_ret (bodyPost_ret (v := .tuple #[lxVal ⟨20, [], -1, i, i + 1⟩, .bool true]) ?_ rfl ⟨?_, ?_⟩)
        ·simp [results, Tryd.results62, go_sem, lxVal, str, c0, c1, c2, c3, c4, d0, d1, d2, d3, d4]
        ·repeat (first | with_reducible refine Below.drew ?_ | with_reducible refine Below.setCell ?_ (by simp) _)
         exact HBE.out
        ·rw [HQ.out]
     ·have HQ := LH (sTok_tilde0 HI.out hk h126 (by rw [dropB_nil s (by omega)]; rfl))
      have hi3 : (s.size : Int) = i + 1 := by have := HI.out; omega
      clear h94 h34 h126 hk
      go_wp2
      refine jump_ret (bodyPost_ret (v := .tuple #[lxVal ⟨20, [], -1, i, i + 1⟩, .bool true]) ?_ rfl ⟨?_, ?_⟩)
      ·simp [results, Tryd.results62, go_sem, lxVal, str, c0, c1, c2, c3, c4, d0, d1, d2, d3, d4]
      ·repeat (first | with_reducible refine Below.drew ?_ | with_reducible refine Below.setCell ?_ (by simp) _)
       exact HBE.out
      ·rw [HQ.out]
    ·have e126b : ((s[i].toNat : Int) == 126) = false := by rw [show (126 : Int) = ((126 : UInt8).toNat : Int) from rfl, byte_beq]; exact beq_eq_false_iff_ne.2 h126
     by_cases h64 : s[i] = 64
     ·have e64b : ((s[i].toNat : Int) == 64) = true := by rw [h64]; rfl
      have HQ := LH (sTok_least HI.out hk h64)
      clear h94 h34 h126 h64 hk
      go_wp2_with fail
      go_step3
      refine ⟨rfl, HJ.out _ _ ?_⟩
      go_wp2_with fail
      refine (number_any s (i + 1) _ (by omega) (by omega)).mono ?_
      rintro e w2 ⟨rfl, rfl⟩
      generalize numOkB (s.data.toList.drop (i + 1)) = B at *
      generalize digs (s.data.toList.drop (i + 1)) = D at *
      go_wp2
      refine jump_ret (bodyPost_ret (v := .tuple #[lxVal ⟨21, [], ncap D, i, i + 1 + D.length⟩, .bool B]) ?_ rfl (RetLx_num ?_ rfl HQ.out))
      ·simp [results, Tryd.results62, go_sem, lxVal, str, c0, c1, c2, c3, c4, d0, d1, d2, d3, d4]
      ·repeat (first | with_reducible refine Below.drew ?_ | with_reducible refine Below.setCell ?_ (by simp) _)
       exact HBE.out
     ·have e64b : ((s[i].toNat : Int) == 64) = false := by rw [show (64 : Int) = ((64 : UInt8).toNat : Int) from rfl, byte_beq]; exact beq_eq_false_iff_ne.2 h64
      have HQ := LH (sTok_run HI.out hk h34 h94 h126 h64)
      clear h94 h34 h126 h64 hk
      go_wp2_with fail
      have hc := run_any s i wr hs HI.out HEr.out
      rw [← HQ.out] at hc
      refine hc.mono ?_
      clear hc
      rintro e w2 ⟨hb2, hm⟩
      obtain ⟨⟨d0, d1, d2, d3, d4⟩, e0, e1, e2, e3, e4⟩ := (H4.out.below hb2 (by omega)).facts
      have HB2 := LH (HBE.out.trans (hb2.mono (by omega)))
      clear hb2 HQ
      generalize sTok s i = R at *
      cases R with
      | none =>
       obtain ⟨x, rfl⟩ := hm
       simp only [lxVal]
       go_wp2
       refine jump_ret (bodyPost_ret (v := .tuple #[lxVal x, .bool false]) ?_ rfl ⟨?_, ?_⟩)
       ·simp [results, Tryd.results62, go_sem, lxVal, str, c0, c1, c2, c3, c4, d0, d1, d2, d3, d4]
       ·repeat (first | with_reducible refine Below.drew ?_ | with_reducible refine Below.setCell ?_ (by simp) _)
        exact HB2.out
       ·exact ⟨x, rfl⟩
      | some x =>
       cases hm
       simp only [lxVal]
       go_wp2
       refine jump_ret (bodyPost_ret (v := .tuple #[lxVal x, .bool true]) ?_ rfl ⟨?_, ?_⟩)
       ·simp [results, Tryd.results62, go_sem, lxVal, str, c0, c1, c2, c3, c4, d0, d1, d2, d3, d4]
       ·repeat (first | with_reducible refine Below.drew ?_ | with_reducible refine Below.setCell ?_ (by simp) _)
        exact HB2.out
       ·rfl
 ·have hkb : (singleK s[i] != 0) = true := by simpa using hk
  have HQ := LH (sTok_single HI.out hk)
  clear hk
  generalize singleK s[i] = K at *
  go_wp2
  refine jump_ret (bodyPost_ret (v := .tuple #[lxVal ⟨K, [], 0, i, i + 1⟩, .bool true]) ?_ rfl ⟨?_, ?_⟩)
  ·simp [results, Tryd.results62, go_sem, lxVal, str, c0, c1, c2, c3, c4, d0, d1, d2, d3, d4]
  ·repeat (first | with_reducible refine Below.drew ?_ | with_reducible refine Below.setCell ?_ (by simp) _)
   exact HBE.out
  ·rw [HQ.out]
def lexS : Shape Lx := { tS := 67, tE := 74, size := 5, bytes := 48, enc := fun x => [.int .i64 x.kind, .string (str x.text), .int .i64 x.n, .int .i64 x.at_, .int .i64 x.end_], zero := .agg #[.int .i64 0, .string ⟨#[]⟩, .int .i64 0, .int .i64 0, .int .i64 0] }
theorem lexOk : lexS.Ok where
 under := Tryd.underlying67
 info := by kernel_rfl
 zs := rfl
 pos := by decide
 len := fun _ => rfl
 one := fun x u hu => by
  simp only [lexS, List.mem_cons, List.not_mem_nil, or_false] at hu
  rcases hu with rfl | rfl | rfl | rfl | rfl <;> rfl
 small := by decide
def RetScan (w : World) (v : Value) (r : List Lx × Option Nat) (e : Ending) (w' : World) : Prop :=
 Below w.heap.size w w' ∧ match r.2 with
  | none => ∃ sl, e = .returned (.tuple #[sl, .int .i64 0, .nilIface]) ∧ OwnL lexS w' w.heap.size sl r.1
  | some p => e = .returned (.tuple #[.slice none 0 0, .int .i64 (p : Int), v])
def ScPos (s : ByteArray) (k f : Nat) (pre : List Lx) : Prop :=
 k ≤ s.size ∧ pre.length ≤ k ∧ s.size - k < f ∧ scanL s.data.toList = ahead pre (scanF f (s.data.toList.drop k) k)
theorem scanF_or (f : Nat) (l : List UInt8) (i : Nat) : (scanF f l i).2 = none ∨ (scanF f l i).1 = [] := by
 induction f generalizing l i with
 | zero => exact .inr rfl
 | succ f ih =>
  cases l with
  | nil => exact .inl rfl
  | cons c t =>
   rw [scanF]
   split
   ·exact ih _ _
   ·split
    ·exact .inr rfl
    ·rename_i k _
     rcases hr : scanF f ((c :: t).drop k.len) (i + k.len) with ⟨a, b⟩
     cases b with
     | none => exact .inl rfl
     | some p => exact .inr rfl
theorem ScPos_start (s : ByteArray) : ScPos s 0 (s.size + 1) [] := by
 refine ⟨by omega, by simp, by omega, ?_⟩
 unfold scanL
 rw [← ba_size, List.drop_zero, ahead_nil _ (scanF_or _ _ _)]
section
variable {s : ByteArray} {k f : Nat} {pre : List Lx}
theorem ScPos_blank (h : ScPos s k f pre) (hk : k < s.size) (hc : cls s[k] = 1) : ∃ f', ScPos s (k + 1) f' pre := by
 obtain ⟨g1, g2, g3, g4⟩ := h
 obtain ⟨f, rfl⟩ : ∃ g, f = g + 1 := ⟨f - 1, by omega⟩
 refine ⟨f, by omega, by omega, by omega, ?_⟩
 rw [g4, dropB s hk, scanF, if_pos hc]
theorem sTok_len {x : Lx} (hk : k < s.size) (h : sTok s k = some x) (hc : cls s[k] ≠ 1) : k + 1 ≤ x.end_ ∧ x.end_ ≤ s.size := by
 unfold sTok at h
 obtain ⟨t, ht, rfl⟩ := Option.map_eq_some_iff.1 h
 have := tok_len ht (fun c hh => by rw [dropB s hk] at hh; cases hh; exact hc)
 rw [List.length_drop, ← ba_size] at this
 simp only [Tk.lx]
 omega
theorem ScPos_tok {x : Lx} (h : ScPos s k f pre) (hk : k < s.size) (hc : cls s[k] ≠ 1) (ht : sTok s k = some x) : ∃ f', ScPos s x.end_ f' (pre ++ [x]) := by
 obtain ⟨g1, g2, g3, g4⟩ := h
 obtain ⟨f, rfl⟩ : ∃ g, f = g + 1 := ⟨f - 1, by omega⟩
 have hl := sTok_len hk ht hc
 refine ⟨f, by omega, by simp; omega, by omega, ?_⟩
 unfold sTok at ht
 obtain ⟨t, ht2, rfl⟩ := Option.map_eq_some_iff.1 ht
 clear ht
 rw [g4]
 rw [dropB s hk] at ht2 ⊢
 rw [scanF, if_neg hc, ht2]
 simp only []
 rw [ahead_ahead, ← dropB s hk, List.drop_drop]
 rfl
theorem ScPos_bad (h : ScPos s k f pre) (hk : k < s.size) (hc : cls s[k] ≠ 1) (ht : sTok s k = none) : scanL s.data.toList = ([], some k) := by
 obtain ⟨g1, g2, g3, g4⟩ := h
 obtain ⟨f, rfl⟩ : ∃ g, f = g + 1 := ⟨f - 1, by omega⟩
 have ht := Option.map_eq_none_iff.1 ht
 rw [g4]
 rw [dropB s hk] at ht ⊢
 rw [scanF, if_neg hc, ht]
 rfl
theorem ScPos_end (h : ScPos s k f pre) (hk : ¬ k < s.size) : scanL s.data.toList = (pre ++ [⟨0, [], 0, k, k⟩], none) := by
 obtain ⟨g1, g2, g3, g4⟩ := h
 obtain ⟨f, rfl⟩ : ∃ g, f = g + 1 := ⟨f - 1, by omega⟩
 rw [g4, dropB_nil s (by omega), scanF]
 rfl
end
def ErrAt (w : World) (g : Nat) (v : Value) : Prop := w.cell? ⟨g, 0, none⟩ = some v ∧ g < w.heap.size
theorem ErrAt.below {w w' : World} {B g : Nat} {v : Value} (h : ErrAt w g v) (hB : g < B) (hb : Below B w w') : ErrAt w' g v :=
 ⟨(hb.cell (p := ⟨g, 0, none⟩) hB).trans h.1, Nat.lt_of_lt_of_le h.2 hb.size⟩
def ScRel (s : ByteArray) (w : World) (ov iv : Value) (wr : World) : Prop :=
 ∃ k f pre, ScPos s k f pre ∧ iv = .int .i64 (k : Int) ∧ OwnL lexS wr w.heap.size ov pre ∧ Below w.heap.size w wr
theorem Scan_any (s : ByteArray) (w : World) (v : Value) (hs : s.size ≤ 900000000000) (hE : ClsEnv w) (hv : ErrAt w 1 v) :
  Calls Tryd.prog 40 #[.string s] w (RetScan w v (scanL s.data.toList)) := by
 have HE := LH hE; clear hE
 have HV := LH hv; clear hv
 go_enter Tryd.func40, Tryd.ntmps40
 go_wp2
 go_loopw [5, 6] (fun ov iv wr => ScRel s w ov iv wr) (fun _ iv _ => s.size - (intOf iv).toNat)
 case atStart => exact ⟨0, _, [], ScPos_start s, rfl, OwnL.nil _ _ _, Below.refl _ _⟩
 case round =>
  obtain ⟨k0, f0, pre, hp0, rfl, ho, hb⟩ := hrel
  have HP0 := LH hp0
  have HO := LH ho; have HB := LH hb
  have hBr : w.heap.size ≤ wr.heap.size := hb.size
  have HEr := LH (HE.out.belowB HE.out.2 hb)
  have HVr := LH (HV.out.below HV.out.2 hb)
  have hk0 := hp0.1
  clear hp0 ho hb
  go_wp2
  go_loopw [6] (fun iv wx => wx = wr ∧ ∃ k f, k0 ≤ k ∧ ScPos s k f pre ∧ iv = .int .i64 (k : Int)) (fun iv _ => s.size - (intOf iv).toNat)
  case atStart => exact ⟨rfl, k0, f0, Nat.le_refl _, HP0.out, rfl⟩
  case round =>
   obtain ⟨rfl, k, f, hkk, hp, rfl⟩ := hrel
   have hk := hp.1
   have hpl := hp.2.1
   have HP := LH hp; clear hp
   by_cases hlt : k < s.size
   ·have hbx := u8_lt s[k]
    by_cases hc : cls s[k] = 1
    ·have hcb : (cls s[k] == 1) = true := by rw [hc]; rfl
     obtain ⟨f', hp'⟩ := ScPos_blank HP.out hlt hc
     have HP' := LH hp'; clear hp' hc
     go_wp2_with fail
     refine (class_any s[k] _ HEr.out).mono ?_
     rintro e wc ⟨rfl, rfl⟩
     go_wp2
     go_roundw
     case rel => exact ⟨by trivial, k + 1, f', by omega, HP'.out, by go_num⟩
     case measure => simp [intOf]; omega
    ·have hcb : (cls s[k] == 1) = false := beq_eq_false_iff_ne.2 hc
     have hne : ((k : Int) == (s.size : Int)) = false := by rw [beq_eq_false_iff_ne]; omega
     have HC := LH hc; clear hc
     go_wp2_with fail
     refine (class_any s[k] _ HEr.out).mono ?_
     rintro e wc ⟨rfl, rfl⟩
     go_wp2_with fail
     refine (scan_any s k _ hs hlt HEr.out).mono ?_
     rintro e w2 ⟨hb2, hm⟩
     have HB2 := LH hb2
     generalize hR : sTok s k = R at hm
     have HR := LH hR; clear hR
     cases R with
     | none =>
      obtain ⟨x, rfl⟩ := hm
      have HQ := LH (ScPos_bad HP.out hlt HC.out HR.out)
      have hv2 := (HVr.out.below HVr.out.2 hb2).1
      have hg2 := (HVr.out.below HVr.out.2 hb2).2
      clear hb2
      simp only [lxVal]
      go_wp2
      go_region
      go_wp2
      go_ret3
      refine ⟨?_, ?_⟩
      ·have hb3 := (HB.out.trans (HB2.out.mono hBr)).alloc (Nat.le_trans hBr HB2.out.size) (.cells #[.int .i64 x.kind, .string (str x.text), .int .i64 x.n, .int .i64 x.at_, .int .i64 x.end_] 74)
       first | exact hb3 | exact hb3.drew
      ·rw [HQ.out]
       first | exact rfl | (show _ = _; simp [go_sem])
     | some x =>
      cases hm
      obtain ⟨f', hp'⟩ := ScPos_tok HP.out hlt HC.out HR.out
      have hl := sTok_len hlt HR.out HC.out
      have HP' := LH hp'; clear hp'
      have ho2 := HO.out.below hb2
      have hB2 : w.heap.size ≤ w2.heap.size := Nat.le_trans hBr hb2.size
      have hnew := ho2.ne_new (Nat.le_refl _)
      have HN := LH hnew
      have HO2 := LH (ho2.alloc (.cells #[.int .i64 x.kind, .string (str x.text), .int .i64 x.n, .int .i64 x.at_, .int .i64 x.end_] 74))
      clear hb2 ho2 hnew
      simp only [lxVal]
      go_wp2_with (at_builtin; refine OwnL.appendK lexOk HO2.out x _ rfl _ _ rfl rfl rfl _ rfl ?_ ?_ ?_ ?_)
      ·simp
      ·simp; omega
      ·omega
      ·intro v' w' h2 h3 h3k
       have hk5 := Blk5.new w2 (.int .i64 x.kind) (.string (str x.text)) (.int .i64 x.n) (.int .i64 x.at_) (.int .i64 x.end_)
       have hk6 : Blk5 w' w2.heap.size (.int .i64 x.kind) (.string (str x.text)) (.int .i64 x.n) (.int .i64 x.at_) (.int .i64 x.end_) := (h3k w2.heap.size (by simp) HN.out).trans hk5
       obtain ⟨⟨c0, c1, c2, c3, c4⟩, f0, f1, f2, f3, f4⟩ := hk6.facts
       have H2 := LH h2
       have HB3 := LH (((HB.out.trans (HB2.out.mono hBr)).alloc hB2 (.cells #[.int .i64 x.kind, .string (str x.text), .int .i64 x.n, .int .i64 x.at_, .int .i64 x.end_] 74)).trans h3)
       clear h2 h3 h3k hk5 hk6
       go_wp2
       go_roundw
       case rel => exact ⟨x.end_, f', _, HP'.out, rfl, H2.out, HB3.out⟩
       case measure => simp [intOf]; omega
   ·have hne : ((k : Int) == (s.size : Int)) = true := by rw [beq_iff_eq]; omega
    have HQ := LH (ScPos_end HP.out hlt)
    go_wp2_with (at_builtin; refine OwnL.append lexOk HO.out ⟨0, [], 0, k, k⟩ rfl _ _ rfl rfl rfl _ rfl hBr ?_ ?_)
    ·omega
    ·intro v' w' h2 h3
     have H2 := LH h2; clear h2
     go_wp2
     go_ret3
     refine ⟨HB.out.trans h3, ?_⟩
     rw [HQ.out]
     exact ⟨_, rfl, H2.out⟩
theorem quotedL_app : ∀ (a b : List UInt8) (x : List UInt8 × Nat), quotedL a = some x → quotedL (a ++ b) = some x
 | [], b, x, h => by cases h
 | [c], [], x, h => by simpa using h
 | [c], d :: t, x, h => by
  unfold quotedL at h
  split at h
  ·rename_i hc; cases h
   rw [List.singleton_append, quotedL, if_pos hc]
  ·cases h
 | c :: d :: t, b, x, h => by
  rw [quotedL] at h
  rw [List.cons_append, List.cons_append, quotedL]
  split at h
  ·rename_i hc; cases h; rw [if_pos hc]
  ·rename_i hc
   rw [if_neg hc]
   split at h
   ·rename_i hd
    obtain ⟨y, hy, rfl⟩ := Option.map_eq_some_iff.1 h
    rw [if_pos hd, quotedL_app t b y hy]; rfl
   ·rename_i hd
    obtain ⟨y, hy, rfl⟩ := Option.map_eq_some_iff.1 h
    have := quotedL_app (d :: t) b y hy
    rw [List.cons_append] at this
    rw [if_neg hd, this]; rfl
def Lx.up (d : Nat) (x : Lx) : Lx := ⟨x.kind, x.text, x.n, x.at_ + d, x.end_ + d⟩
def upAll (d : Nat) (r : List Lx × Option Nat) : List Lx × Option Nat := (r.1.map (Lx.up d), r.2.map (· + d))
theorem Tk.lx_up (k : Tk) (i d : Nat) : k.lx (i + d) = (k.lx i).up d := by simp [Tk.lx, Lx.up]; omega
theorem ahead_up (d : Nat) (a : List Lx) (r : List Lx × Option Nat) : upAll d (ahead a r) = ahead (a.map (Lx.up d)) (upAll d r) := by
 obtain ⟨x, y⟩ := r
 cases y <;> simp [ahead, upAll]
theorem scanF_up (f : Nat) (l : List UInt8) (i d : Nat) : scanF f l (i + d) = upAll d (scanF f l i) := by
 induction f generalizing l i with
 | zero => rfl
 | succ f ih =>
  cases l with
  | nil => rfl
  | cons c t =>
   rw [scanF, scanF]
   split
   ·rw [show i + d + 1 = i + 1 + d from by omega, ih]
   ·split
    ·rfl
    ·rename_i k _
     rw [ahead_up, Tk.lx_up, show i + d + k.len = i + k.len + d from by omega, ih]; rfl
theorem scanF_fuel : ∀ (f f' : Nat) (l : List UInt8) (i : Nat), l.length < f → l.length < f' → scanF f l i = scanF f' l i
 | 0, _, l, i, h, _ => by omega
 | _, 0, l, i, _, h => by omega
 | f + 1, f' + 1, [], i, _, _ => rfl
 | f + 1, f' + 1, c :: t, i, h, h' => by
  simp only [List.length_cons] at h h'
  rw [scanF, scanF]
  split
  ·exact scanF_fuel f f' t (i + 1) (by omega) (by omega)
  ·rename_i hc
   split
   ·rfl
   ·rename_i k ht
    have hk := tok_len ht (fun d hd => by cases hd; exact hc)
    rw [scanF_fuel f f' _ _ (by rw [List.length_drop, List.length_cons]; omega) (by rw [List.length_drop, List.length_cons]; omega)]
theorem scanF_ne (f : Nat) (l : List UInt8) (i : Nat) (la : List Lx) (h : scanF f l i = (la, none)) : la ≠ [] := by
 induction f generalizing l i la with
 | zero => cases h
 | succ f ih =>
  cases l with
  | nil => cases h; simp
  | cons c t =>
   rw [scanF] at h
   split at h
   ·exact ih _ _ _ h
   ·split at h
    ·cases h
    ·rename_i k _
     rcases hr : scanF f ((c :: t).drop k.len) (i + k.len) with ⟨u, _ | z⟩
     ·rw [hr] at h; cases h; simp
     ·rw [hr] at h; cases h
structure Sg where
 c : UInt8
 letter : Bool
 place : Nat
 size : Nat
def signsFrom : List UInt8 → Nat → List Sg
 | [], _ => []
 | [c], i => [⟨c, false, i, 1⟩]
 | c :: d :: t, i => if c = 92 then ⟨d, true, i, 2⟩ :: signsFrom t (i + 2) else ⟨c, false, i, 1⟩ :: signsFrom (d :: t) (i + 1)
def signs (l : List UInt8) : List Sg := signsFrom l 0
theorem drop_cons {l : List UInt8} {k : Nat} (h : k < l.length) : l.drop k = l[k] :: l.drop (k + 1) := List.drop_eq_getElem_cons h
theorem signs_letter {l : List UInt8} {k : Nat} (h : k + 1 < l.length) (h92 : l[k] = 92) : signsFrom (l.drop k) k = ⟨l[k + 1], true, k, 2⟩ :: signsFrom (l.drop (k + 2)) (k + 2) := by
 rw [drop_cons (by omega : k < l.length), drop_cons h, signsFrom, if_pos h92]
theorem signs_plain {l : List UInt8} {k : Nat} (h : k < l.length) (h92 : l[k] ≠ 92 ∨ l.length ≤ k + 1) : signsFrom (l.drop k) k = ⟨l[k], false, k, 1⟩ :: signsFrom (l.drop (k + 1)) (k + 1) := by
 by_cases h1 : k + 1 < l.length
 ·have h2 : l[k] ≠ 92 := by rcases h92 with h | h; exact h; omega
  rw [drop_cons h, drop_cons h1, signsFrom, if_neg h2]
 ·have e : l.drop (k + 1) = [] := List.drop_eq_nil_of_le (by omega)
  rw [drop_cons h, e]
  simp [signsFrom]
theorem signs_none {l : List UInt8} {k : Nat} (h : l.length ≤ k) : signsFrom (l.drop k) k = [] := by rw [List.drop_eq_nil_of_le h]; simp [signsFrom]
def badSg (x : Sg) : Bool := !x.letter && x.c == 92
def wildSg (x : Sg) : Bool := !x.letter && decide (cls x.c = 3)
def patSg (first : Bool) (x : Sg) : List UInt8 := if wildSg x then [x.c] else esc first x.c
def patTo (l : List Sg) : Nat → List UInt8
 | 0 => []
 | k + 1 => patTo l k ++ (match l[k]? with | some x => patSg (k == 0) x | none => [])
def patternL (l : List UInt8) : List UInt8 := if (signs l).any badSg = true then [] else if (signs l).any wildSg = true then patTo (signs l) (signs l).length else []
theorem take_snoc' {α : Type} (l : List α) (k : Nat) (h : k < l.length) : l.take (k + 1) = l.take k ++ [l[k]] := List.take_succ_eq_append_getElem h
theorem signs_length (l : List UInt8) : (signs l).length ≤ l.length := by
 unfold signs
 suffices h : ∀ n i, n = l.length → ∀ l' : List UInt8, l'.length ≤ n → (signsFrom l' i).length ≤ l'.length by exact h l.length 0 rfl l (Nat.le_refl _)
 intro n
 induction n using Nat.strongRecOn generalizing l with
 | _ n ih =>
  intro i hn l' hl'
  match l' with
  | [] => simp [signsFrom]
  | [c] => simp [signsFrom]
  | c :: d :: t =>
   unfold signsFrom
   simp only [List.length_cons] at hl'
   split
   ·have := ih (n - 1) (by omega) (l := List.replicate (n - 1) 0) (i + 2) (by simp) t (by omega)
    simp only [List.length_cons]; omega
   ·have := ih (n - 1) (by omega) (l := List.replicate (n - 1) 0) (i + 1) (by simp) (d :: t) (by simp only [List.length_cons]; omega)
    simp only [List.length_cons] at this ⊢; omega
theorem patTo_succ (l : List Sg) (k : Nat) (h : k < l.length) : patTo l (k + 1) = patTo l k ++ patSg (k == 0) l[k] := by
 rw [patTo, List.getElem?_eq_getElem h]
end Go.Proofs.YthcldpminmhgkaaDoor
end
