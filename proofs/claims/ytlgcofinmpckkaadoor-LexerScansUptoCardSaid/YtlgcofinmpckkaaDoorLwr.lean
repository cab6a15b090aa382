/- The walk of LexerWrites. -/
import Derived.Test.YtlgcofinmpckkaaDoorLqu
namespace Go.Proofs.YtlgcofinmpckkaaDoor
open Go.RowKit
set_option maxRecDepth 100000
set_option maxHeartbeats 1000000

theorem writes_walk (s : ByteArray) (w : World) (hs : s.size ≤ 10000000) (hE : ClsEnv w) :
    Calls Tryd.prog 3 #[.string s] w fun e w' => e = .returned (.bool true) ∧ Below w.heap.size w w' := by
  have HE := Lib.hid hE; clear hE
  have hw0 : wordL [45, 97, 58, 98] = [92, 45, 97, 92, 58, 98] := by decide
  have hq0 : quoteL [] = [34, 34] := by decide
  have t1 : (str [92, 45, 97, 92, 58, 98]).toList = [92, 45, 97, 92, 58, 98] := by rw [ba_toList]; rfl
  have t2 : (str [34, 34]).toList = [34, 34] := by rw [ba_toList]; rfl
  have HW0 := Lib.hid hw0; have HQ0 := Lib.hid hq0
  have HS := Lib.hid hs
  clear hw0 hq0 hs
  go_enter Tryd.func3, Tryd.ntmps3
  go_wp2_with fail
  refine (word_any ⟨#[45, 97, 58, 98]⟩ _ HE.out (by simp [ByteArray.size])).mono ?_
  rintro e w1 ⟨he, hb1⟩
  rw [show (ByteArray.mk #[45, 97, 58, 98]).data.toList = [45, 97, 58, 98] from rfl, HW0.out] at he
  subst he
  have E1 := Lib.hid (HE.out.below hb1)
  go_wp2_with fail
  refine (quote_any ⟨#[]⟩ _ (by simp [ByteArray.size])).mono ?_
  rintro e w2 ⟨he, hb2⟩
  rw [show (ByteArray.mk #[]).data.toList = [] from rfl, HQ0.out] at he
  subst he
  have E2 := Lib.hid (E1.out.below hb2)
  go_wp2_with fail
  refine (word_any s _ E2.out HS.out).mono ?_
  rintro e w3 ⟨rfl, hb3⟩
  go_wp2_with fail
  refine (refWord_any s _ HS.out).mono ?_
  rintro e w4 ⟨rfl, hb4⟩
  have E4 := Lib.hid ((E2.out.below hb3).below hb4)
  go_wp2_with fail
  refine (quote_any s _ HS.out).mono ?_
  rintro e w5 ⟨rfl, hb5⟩
  go_wp2_with fail
  refine (refQuote_any s _ HS.out).mono ?_
  rintro e w6 ⟨rfl, hb6⟩
  have E6 := Lib.hid ((E4.out.below hb5).below hb6)
  go_wp2_with fail
  refine (pattern_any s _ HS.out E6.out).mono ?_
  rintro e w7 ⟨rfl, hb7⟩
  go_wp2_with fail
  refine (refPattern_any s _ HS.out).mono ?_
  rintro e w8 ⟨rfl, hb8⟩
  go_wp2
  go_ret
  exact ⟨rfl, Bel2 (Bel2 (Bel2 (Bel2 (Bel2 (Bel2 (Bel2 hb1 hb2) hb3) hb4) hb5) hb6) hb7) hb8⟩
end Go.Proofs.YtlgcofinmpckkaaDoor
