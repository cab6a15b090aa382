/- The walk of the lexer's scan. -/
import Derived.Test.YtlgcofinmpckkaaDoorSr
namespace Go.Proofs.YtlgcofinmpckkaaDoor
open Go.RowKit
set_option maxRecDepth 100000
set_option maxHeartbeats 1000000
set_option linter.unusedSimpArgs false

def sTok (s : ByteArray) (i : Nat) : Option Lx := (tokOf (s.data.toList.drop i)).map fun k => k.lx i
section
variable {s : ByteArray} {i : Nat}
theorem sTok_single (hi : i < s.size) (h : singleK s[i] ≠ 0) : sTok s i = some ⟨singleK s[i], [], 0, i, i + 1⟩ := by
  unfold sTok; rw [dropB s hi, tokOf, if_pos h]; rfl
theorem sTok_quote (hi : i < s.size) (h : singleK s[i] = 0) (h1 : s[i] = 34) : sTok s i = qTok s i := by
  unfold sTok qTok; rw [dropB s hi, tokOf, if_neg (by simp [h]), if_pos h1, Option.map_map]
  congr 1
  funext x
  simp only [Function.comp, Tk.lx, Lx.mk.injEq, true_and]
  omega
theorem numTk_lx (kind : Int) (l : List UInt8) (m i : Nat) : (numTk kind l m).map (fun k => k.lx i) = if numOkB l = true then some ⟨kind, [], ncap (digs l), i, i + m + (digs l).length⟩ else none := by
  unfold numTk
  split
  · simp only [Option.map_some, Tk.lx]; rw [Nat.add_assoc]
  · rfl
theorem sTok_const (hi : i < s.size) (hi2 : i + 1 < s.size) (h : singleK s[i] = 0) (h1 : s[i] = 94) (h2 : s[i + 1] = 61) : sTok s i = if numOkB (s.data.toList.drop (i + 2)) = true then some ⟨19, [], ncap (digs (s.data.toList.drop (i + 2))), i, i + 2 + (digs (s.data.toList.drop (i + 2))).length⟩ else none := by
  unfold sTok; rw [dropB s hi, tokOf, if_neg (by simp [h]), if_neg (by rw [h1]; decide), if_pos h1, dropB s hi2, if_pos (by simp [h2]), List.drop_succ_cons, List.drop_zero, numTk_lx]
theorem sTok_boost (hi : i < s.size) (h : singleK s[i] = 0) (h1 : s[i] = 94) (h2 : ∀ hi2 : i + 1 < s.size, s[i + 1] ≠ 61) : sTok s i = if numOkB (s.data.toList.drop (i + 1)) = true then some ⟨18, [], ncap (digs (s.data.toList.drop (i + 1))), i, i + 1 + (digs (s.data.toList.drop (i + 1))).length⟩ else none := by
  unfold sTok; rw [dropB s hi, tokOf, if_neg (by simp [h]), if_neg (by rw [h1]; decide), if_pos h1, if_neg ?_, numTk_lx]
  intro hh
  by_cases hi2 : i + 1 < s.size
  · rw [dropB s hi2] at hh; exact h2 hi2 (by simpa using hh)
  · rw [dropB_nil s (by omega)] at hh; cases hh
theorem sTok_tilde0 (hi : i < s.size) (h : singleK s[i] = 0) (h1 : s[i] = 126) (h2 : digs (s.data.toList.drop (i + 1)) = []) : sTok s i = some ⟨20, [], -1, i, i + 1⟩ := by
  unfold sTok; rw [dropB s hi, tokOf, if_neg (by simp [h]), if_neg (by rw [h1]; decide), if_neg (by rw [h1]; decide), if_pos h1, if_pos h2]; rfl
theorem sTok_tilde (hi : i < s.size) (h : singleK s[i] = 0) (h1 : s[i] = 126) (h2 : digs (s.data.toList.drop (i + 1)) ≠ []) : sTok s i = if numOkB (s.data.toList.drop (i + 1)) = true then some ⟨20, [], ncap (digs (s.data.toList.drop (i + 1))), i, i + 1 + (digs (s.data.toList.drop (i + 1))).length⟩ else none := by
  unfold sTok; rw [dropB s hi, tokOf, if_neg (by simp [h]), if_neg (by rw [h1]; decide), if_neg (by rw [h1]; decide), if_pos h1, if_neg h2, numTk_lx]
theorem sTok_least (hi : i < s.size) (h : singleK s[i] = 0) (h1 : s[i] = 64) : sTok s i = if numOkB (s.data.toList.drop (i + 1)) = true then some ⟨21, [], ncap (digs (s.data.toList.drop (i + 1))), i, i + 1 + (digs (s.data.toList.drop (i + 1))).length⟩ else none := by
  unfold sTok; rw [dropB s hi, tokOf, if_neg (by simp [h]), if_neg (by rw [h1]; decide), if_neg (by rw [h1]; decide), if_neg (by rw [h1]; decide), if_pos h1, numTk_lx]
theorem sTok_run (hi : i < s.size) (h : singleK s[i] = 0) (h1 : s[i] ≠ 34) (h2 : s[i] ≠ 94) (h3 : s[i] ≠ 126) (h4 : s[i] ≠ 64) : sTok s i = rTok s i := by
  unfold sTok rTok; rw [dropB s hi, tokOf, if_neg (by simp [h]), if_neg h1, if_neg h2, if_neg h3, if_neg h4]
end
theorem RetLx_num {w w' : World} {e : Ending} {x : Lx} {B : Bool} {r : Option Lx} (hb : Below w.heap.size w w') (he : e = .returned (.tuple #[lxVal x, .bool B])) (hr : r = if B = true then some x else none) : RetLx w r e w' := by
  subst hr
  refine ⟨hb, ?_⟩
  cases B
  · exact ⟨x, he⟩
  · exact he

theorem scan_any (s : ByteArray) (i : Nat) (w : World) (hs : s.size ≤ 10000000) (hi : i < s.size) (hE : ClsEnv w) :
    Calls Tryd.prog 30 #[.string s, .int .i64 (i : Int)] w (RetLx w (sTok s i)) := by
  have HI := Lib.hid hi
  have HE := Lib.hid hE
  clear hE
  have hA := Blk5.new w (.int .i64 0) (.string ⟨#[]⟩) (.int .i64 0) (.int .i64 0) (.int .i64 0)
  have hB := Blk5.new (w.alloc (.cells #[.int .i64 0, .string ⟨#[]⟩, .int .i64 0, .int .i64 0, .int .i64 0] 35)) (.int .i64 0) (.string ⟨#[]⟩) (.int .i64 0) (.int .i64 i) (.int .i64 0)
  have b1 : Below w.heap.size w (w.alloc (.cells #[.int .i64 0, .string ⟨#[]⟩, .int .i64 0, .int .i64 0, .int .i64 0] 35)) := (Below.refl _ _).alloc (Nat.le_refl _) _
  have b2 := b1.alloc b1.size (.cells #[.int .i64 0, .string ⟨#[]⟩, .int .i64 0, .int .i64 i, .int .i64 0] 35)
  have hA2 := hA.below ((Below.refl (w.heap.size + 1) _).alloc (by simp) (.cells #[.int .i64 0, .string ⟨#[]⟩, .int .i64 0, .int .i64 i, .int .i64 0] 35)) (by simp)
  rw [show (w.alloc (.cells #[.int .i64 0, .string ⟨#[]⟩, .int .i64 0, .int .i64 0, .int .i64 0] 35)).heap.size = w.heap.size + 1 from by simp] at hB
  have hE2 := HE.out.below b2
  clear hA b1
  have hbx := u8_lt s[i]
  go_enter Tryd.func30, Tryd.ntmps30
  go_wp2
  refine wp_scope_forward 0 rfl ?_
  intro J HJ
  go_wp2_with fail
  refine (single_any s[i] _).mono ?_
  rintro e w1 ⟨rfl, rfl⟩
  generalize (w.alloc (.cells #[.int .i64 0, .string ⟨#[]⟩, .int .i64 0, .int .i64 0, .int .i64 0] 35)).alloc (.cells #[.int .i64 0, .string ⟨#[]⟩, .int .i64 0, .int .i64 i, .int .i64 0] 35) = wr at *
  have H4 := Lib.hid hA2; have H6 := Lib.hid hB; have HEr := Lib.hid hE2; have HBE := Lib.hid b2
  have hBr : w.heap.size + 2 ≤ wr.heap.size := hB.lt
  clear hA2 hB hE2 b2 HE
  obtain ⟨⟨c0, c1, c2, c3, c4⟩, f0, f1, f2, f3, f4⟩ := H6.out.facts
  obtain ⟨⟨d0, d1, d2, d3, d4⟩, e0, e1, e2, e3, e4⟩ := H4.out.facts
  by_cases hk : singleK s[i] = 0
  · have hkb : (singleK s[i] != 0) = false := by rw [hk]; rfl
    by_cases h34 : s[i] = 34
    · have e34b : ((s[i].toNat : Int) == 34) = true := by rw [h34]; rfl
      have HQ := Lib.hid (sTok_quote HI.out hk h34)
      clear h34 hk
      go_wp2_with fail
      have hc := quoted_any s i wr hs HI.out
      rw [← HQ.out] at hc
      refine hc.mono ?_
      clear hc
      rintro e w2 ⟨hb2, hm⟩
      obtain ⟨⟨d0, d1, d2, d3, d4⟩, e0, e1, e2, e3, e4⟩ := (H4.out.below hb2 (by omega)).facts
      have HB2 := Lib.hid (HBE.out.trans (hb2.mono (by omega)))
      clear hb2 HQ
      generalize sTok s i = R at *
      cases R with
      | none =>
        obtain ⟨x, rfl⟩ := hm
        simp only [lxVal]
        go_wp2
        refine jump_ret (bodyPost_ret (v := .tuple #[lxVal x, .bool false]) ?_ rfl ⟨?_, ?_⟩)
        · simp [results, Tryd.results30, go_sem, lxVal, str, c0, c1, c2, c3, c4, d0, d1, d2, d3, d4]
        · repeat (first | with_reducible refine Below.drew ?_ | with_reducible refine Below.setCell ?_ (by simp) _)
          exact HB2.out
        · exact ⟨x, rfl⟩
      | some x =>
        cases hm
        simp only [lxVal]
        go_wp2
        refine jump_ret (bodyPost_ret (v := .tuple #[lxVal x, .bool true]) ?_ rfl ⟨?_, ?_⟩)
        · simp [results, Tryd.results30, go_sem, lxVal, str, c0, c1, c2, c3, c4, d0, d1, d2, d3, d4]
        · repeat (first | with_reducible refine Below.drew ?_ | with_reducible refine Below.setCell ?_ (by simp) _)
          exact HB2.out
        · rfl
    · have e34b : ((s[i].toNat : Int) == 34) = false := by rw [show (34 : Int) = ((34 : UInt8).toNat : Int) from rfl, byte_beq]; exact beq_eq_false_iff_ne.2 h34
      by_cases h94 : s[i] = 94
      · have e94b : ((s[i].toNat : Int) == 94) = true := by rw [h94]; rfl
        by_cases hi2 : i + 1 < s.size
        · have hbx2 := u8_lt s[i + 1]
          by_cases h61 : s[i + 1] = 61
          · have e61b : ((s[i + 1].toNat : Int) == 61) = true := by rw [h61]; rfl
            have HQ := Lib.hid (sTok_const HI.out hi2 hk h94 h61)
            clear h61 h94 h34 hk
            go_wp2_with fail
            go_step3
            refine ⟨rfl, HJ.out _ _ ?_⟩
            go_wp2_with fail
            refine (number_any s (i + 2) _ (by omega) (by omega)).mono ?_
            rintro e w2 ⟨rfl, rfl⟩
            generalize numOkB (s.data.toList.drop (i + 2)) = B at *
            generalize digs (s.data.toList.drop (i + 2)) = D at *
            go_wp2
            refine jump_ret (bodyPost_ret (v := .tuple #[lxVal ⟨19, [], ncap D, i, i + 2 + D.length⟩, .bool B]) ?_ rfl (RetLx_num ?_ rfl HQ.out))
            · simp [results, Tryd.results30, go_sem, lxVal, str, c0, c1, c2, c3, c4, d0, d1, d2, d3, d4]
            · repeat (first | with_reducible refine Below.drew ?_ | with_reducible refine Below.setCell ?_ (by simp) _)
              exact HBE.out
          · have e61b : ((s[i + 1].toNat : Int) == 61) = false := by rw [show (61 : Int) = ((61 : UInt8).toNat : Int) from rfl, byte_beq]; exact beq_eq_false_iff_ne.2 h61
            have HQ := Lib.hid (sTok_boost HI.out hk h94 (fun _ => h61))
            clear h61 h94 h34 hk
            go_wp2_with fail
            go_step3
            refine ⟨rfl, HJ.out _ _ ?_⟩
            go_wp2_with fail
            refine (number_any s (i + 1) _ (by omega) (by omega)).mono ?_
            rintro e w2 ⟨rfl, rfl⟩
            generalize numOkB (s.data.toList.drop (i + 1)) = B at *
            generalize digs (s.data.toList.drop (i + 1)) = D at *
            go_wp2
            refine jump_ret (bodyPost_ret (v := .tuple #[lxVal ⟨18, [], ncap D, i, i + 1 + D.length⟩, .bool B]) ?_ rfl (RetLx_num ?_ rfl HQ.out))
            · simp [results, Tryd.results30, go_sem, lxVal, str, c0, c1, c2, c3, c4, d0, d1, d2, d3, d4]
            · repeat (first | with_reducible refine Below.drew ?_ | with_reducible refine Below.setCell ?_ (by simp) _)
              exact HBE.out
        · have HQ := Lib.hid (sTok_boost HI.out hk h94 (fun h => absurd h hi2))
          clear h94 h34 hk
          go_wp2_with fail
          go_step3
          refine ⟨rfl, HJ.out _ _ ?_⟩
          go_wp2_with fail
          refine (number_any s (i + 1) _ (by omega) (by omega)).mono ?_
          rintro e w2 ⟨rfl, rfl⟩
          generalize numOkB (s.data.toList.drop (i + 1)) = B at *
          generalize digs (s.data.toList.drop (i + 1)) = D at *
          go_wp2
          refine jump_ret (bodyPost_ret (v := .tuple #[lxVal ⟨18, [], ncap D, i, i + 1 + D.length⟩, .bool B]) ?_ rfl (RetLx_num ?_ rfl HQ.out))
          · simp [results, Tryd.results30, go_sem, lxVal, str, c0, c1, c2, c3, c4, d0, d1, d2, d3, d4]
          · repeat (first | with_reducible refine Below.drew ?_ | with_reducible refine Below.setCell ?_ (by simp) _)
            exact HBE.out
      · have e94b : ((s[i].toNat : Int) == 94) = false := by rw [show (94 : Int) = ((94 : UInt8).toNat : Int) from rfl, byte_beq]; exact beq_eq_false_iff_ne.2 h94
        by_cases h126 : s[i] = 126
        · have e126b : ((s[i].toNat : Int) == 126) = true := by rw [h126]; rfl
          by_cases hi2 : i + 1 < s.size
          · have hbx2 := u8_lt s[i + 1]
            have hi3 : ((i : Int) + 1 == (s.size : Int)) = false := by rw [beq_eq_false_iff_ne]; omega
            by_cases hdg : 48 ≤ (s[i + 1].toNat : Int) ∧ (s[i + 1].toNat : Int) ≤ 57
            · obtain ⟨g1, g2⟩ := hdg
              have HQ := Lib.hid (sTok_tilde HI.out hk h126 (by rw [dropB s hi2, digs_yes (show isDg s[i + 1] = true from by unfold isDg; rw [decide_eq_true_iff]; omega)]; simp))
              clear h94 h34 h126 hk
              go_wp2_with fail
              go_step3
              refine ⟨rfl, HJ.out _ _ ?_⟩
              go_wp2_with fail
              refine (number_any s (i + 1) _ (by omega) (by omega)).mono ?_
              rintro e w2 ⟨rfl, rfl⟩
              generalize numOkB (s.data.toList.drop (i + 1)) = B at *
              generalize digs (s.data.toList.drop (i + 1)) = D at *
              go_wp2
              refine jump_ret (bodyPost_ret (v := .tuple #[lxVal ⟨20, [], ncap D, i, i + 1 + D.length⟩, .bool B]) ?_ rfl (RetLx_num ?_ rfl HQ.out))
              · simp [results, Tryd.results30, go_sem, lxVal, str, c0, c1, c2, c3, c4, d0, d1, d2, d3, d4]
              · repeat (first | with_reducible refine Below.drew ?_ | with_reducible refine Below.setCell ?_ (by simp) _)
                exact HBE.out
            · have HQ := Lib.hid (sTok_tilde0 HI.out hk h126 (by rw [dropB s hi2]; exact digs_no (show isDg s[i + 1] = false from by unfold isDg; rw [decide_eq_false_iff_not]; omega)))
              have hcc : (s[i + 1].toNat : Int) < 48 ∨ 57 < (s[i + 1].toNat : Int) := by omega
              clear hdg
              rcases hcc with hcc | hcc
              · clear h94 h34 h126 hk
                go_wp2
                refine jump_ret (bodyPost_ret (v := .tuple #[lxVal ⟨20, [], -1, i, i + 1⟩, .bool true]) ?_ rfl ⟨?_, ?_⟩)
                · simp [results, Tryd.results30, go_sem, lxVal, str, c0, c1, c2, c3, c4, d0, d1, d2, d3, d4]
                · repeat (first | with_reducible refine Below.drew ?_ | with_reducible refine Below.setCell ?_ (by simp) _)
                  exact HBE.out
                · rw [HQ.out]
              · clear h94 h34 h126 hk
                go_wp2
                refine jump_ret (bodyPost_ret (v := .tuple #[lxVal ⟨20, [], -1, i, i + 1⟩, .bool true]) ?_ rfl ⟨?_, ?_⟩)
                · simp [results, Tryd.results30, go_sem, lxVal, str, c0, c1, c2, c3, c4, d0, d1, d2, d3, d4]
                · repeat (first | with_reducible refine Below.drew ?_ | with_reducible refine Below.setCell ?_ (by simp) _)
                  exact HBE.out
                · rw [HQ.out]
          · have HQ := Lib.hid (sTok_tilde0 HI.out hk h126 (by rw [dropB_nil s (by omega)]; rfl))
            have hi3 : (s.size : Int) = i + 1 := by have := HI.out; omega
            clear h94 h34 h126 hk
            go_wp2
            refine jump_ret (bodyPost_ret (v := .tuple #[lxVal ⟨20, [], -1, i, i + 1⟩, .bool true]) ?_ rfl ⟨?_, ?_⟩)
            · simp [results, Tryd.results30, go_sem, lxVal, str, c0, c1, c2, c3, c4, d0, d1, d2, d3, d4]
            · repeat (first | with_reducible refine Below.drew ?_ | with_reducible refine Below.setCell ?_ (by simp) _)
              exact HBE.out
            · rw [HQ.out]
        · have e126b : ((s[i].toNat : Int) == 126) = false := by rw [show (126 : Int) = ((126 : UInt8).toNat : Int) from rfl, byte_beq]; exact beq_eq_false_iff_ne.2 h126
          by_cases h64 : s[i] = 64
          · have e64b : ((s[i].toNat : Int) == 64) = true := by rw [h64]; rfl
            have HQ := Lib.hid (sTok_least HI.out hk h64)
            clear h94 h34 h126 h64 hk
            go_wp2_with fail
            go_step3
            refine ⟨rfl, HJ.out _ _ ?_⟩
            go_wp2_with fail
            refine (number_any s (i + 1) _ (by omega) (by omega)).mono ?_
            rintro e w2 ⟨rfl, rfl⟩
            generalize numOkB (s.data.toList.drop (i + 1)) = B at *
            generalize digs (s.data.toList.drop (i + 1)) = D at *
            go_wp2
            refine jump_ret (bodyPost_ret (v := .tuple #[lxVal ⟨21, [], ncap D, i, i + 1 + D.length⟩, .bool B]) ?_ rfl (RetLx_num ?_ rfl HQ.out))
            · simp [results, Tryd.results30, go_sem, lxVal, str, c0, c1, c2, c3, c4, d0, d1, d2, d3, d4]
            · repeat (first | with_reducible refine Below.drew ?_ | with_reducible refine Below.setCell ?_ (by simp) _)
              exact HBE.out
          · have e64b : ((s[i].toNat : Int) == 64) = false := by rw [show (64 : Int) = ((64 : UInt8).toNat : Int) from rfl, byte_beq]; exact beq_eq_false_iff_ne.2 h64
            have HQ := Lib.hid (sTok_run HI.out hk h34 h94 h126 h64)
            clear h94 h34 h126 h64 hk
            go_wp2_with fail
            have hc := run_any s i wr hs HI.out HEr.out
            rw [← HQ.out] at hc
            refine hc.mono ?_
            clear hc
            rintro e w2 ⟨hb2, hm⟩
            obtain ⟨⟨d0, d1, d2, d3, d4⟩, e0, e1, e2, e3, e4⟩ := (H4.out.below hb2 (by omega)).facts
            have HB2 := Lib.hid (HBE.out.trans (hb2.mono (by omega)))
            clear hb2 HQ
            generalize sTok s i = R at *
            cases R with
            | none =>
              obtain ⟨x, rfl⟩ := hm
              simp only [lxVal]
              go_wp2
              refine jump_ret (bodyPost_ret (v := .tuple #[lxVal x, .bool false]) ?_ rfl ⟨?_, ?_⟩)
              · simp [results, Tryd.results30, go_sem, lxVal, str, c0, c1, c2, c3, c4, d0, d1, d2, d3, d4]
              · repeat (first | with_reducible refine Below.drew ?_ | with_reducible refine Below.setCell ?_ (by simp) _)
                exact HB2.out
              · exact ⟨x, rfl⟩
            | some x =>
              cases hm
              simp only [lxVal]
              go_wp2
              refine jump_ret (bodyPost_ret (v := .tuple #[lxVal x, .bool true]) ?_ rfl ⟨?_, ?_⟩)
              · simp [results, Tryd.results30, go_sem, lxVal, str, c0, c1, c2, c3, c4, d0, d1, d2, d3, d4]
              · repeat (first | with_reducible refine Below.drew ?_ | with_reducible refine Below.setCell ?_ (by simp) _)
                exact HB2.out
              · rfl
  · have hkb : (singleK s[i] != 0) = true := by simpa using hk
    have HQ := Lib.hid (sTok_single HI.out hk)
    clear hk
    generalize singleK s[i] = K at *
    go_wp2
    refine jump_ret (bodyPost_ret (v := .tuple #[lxVal ⟨K, [], 0, i, i + 1⟩, .bool true]) ?_ rfl ⟨?_, ?_⟩)
    · simp [results, Tryd.results30, go_sem, lxVal, str, c0, c1, c2, c3, c4, d0, d1, d2, d3, d4]
    · repeat (first | with_reducible refine Below.drew ?_ | with_reducible refine Below.setCell ?_ (by simp) _)
      exact HBE.out
    · rw [HQ.out]
end Go.Proofs.YtlgcofinmpckkaaDoor
