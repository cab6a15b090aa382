/- The reference's scan: single and numbered. -/
import Derived.Test.YtlgcofinmpckkaaDoorZq
namespace Go.Proofs.YtlgcofinmpckkaaDoor
open Go.RowKit
set_option maxRecDepth 100000
set_option maxHeartbeats 4000000
set_option linter.unusedSimpArgs false
set_option linter.unusedVariables false

theorem rsingle_any (c : UInt8) (w : World) :
    Calls Tryd.prog 39 #[.int .u8 (c.toNat : Int)] w fun e w' => e = .returned (.int .i64 (if singleK c = 0 then -1 else singleK c)) ∧ w = w' := by
  have hb : ∀ d : UInt8, ((c.toNat : Int) == (d.toNat : Int)) = decide (c = d) := fun d => by
    rw [Bool.eq_iff_iff, beq_iff_eq, decide_eq_true_iff]; exact ⟨byte_eq, fun h => by rw [h]⟩
  have e1 := hb 40; have e2 := hb 41; have e3 := hb 91; have e4 := hb 93; have e5 := hb 123; have e6 := hb 125; have e7 := hb 58; have e8 := hb 43; have e9 := hb 45; have e10 := hb 124
  simp only [show ((40 : UInt8).toNat : Int) = 40 from rfl, show ((41 : UInt8).toNat : Int) = 41 from rfl, show ((91 : UInt8).toNat : Int) = 91 from rfl, show ((93 : UInt8).toNat : Int) = 93 from rfl, show ((123 : UInt8).toNat : Int) = 123 from rfl, show ((125 : UInt8).toNat : Int) = 125 from rfl, show ((58 : UInt8).toNat : Int) = 58 from rfl, show ((43 : UInt8).toNat : Int) = 43 from rfl, show ((45 : UInt8).toNat : Int) = 45 from rfl, show ((124 : UInt8).toNat : Int) = 124 from rfl] at e1 e2 e3 e4 e5 e6 e7 e8 e9 e10
  clear hb
  generalize hk : (if singleK c = 0 then (-1 : Int) else singleK c) = K
  unfold singleK at hk
  have HK := Lib.hid hk; clear hk
  generalize (c.toNat : Int) = x at *
  go_enter Tryd.func39, Tryd.ntmps39
  go_wp2
  all_goals go_ret
  all_goals refine ⟨?_, rfl⟩
  all_goals (have h := HK.out; simp_all)
/-- The three signs that numbers follow. -/
def NdRet (r : Option (Int × List UInt8 × Int × Nat)) (i : Nat) (w : World) (e : Ending) (w' : World) : Prop :=
  w = w' ∧ match r with
    | none => ∃ j : Int, e = .returned (.tuple #[.int .i64 (-1), .int .i64 0, .int .i64 j])
    | some y => e = .returned (.tuple #[.int .i64 y.1, .int .i64 y.2.2.1, .int .i64 ((i + y.2.2.2 : Nat) : Int)])
theorem ndRet_none {r : Option (Int × List UInt8 × Int × Nat)} {i : Nat} {j : Int} {w : World} (h : r = none) : NdRet r i w (.returned (.tuple #[.int .i64 (-1), .int .i64 0, .int .i64 j])) w := by subst h; exact ⟨rfl, j, rfl⟩
theorem ndRet_some {r : Option (Int × List UInt8 × Int × Nat)} {i k : Nat} {t : List UInt8} {kind n m : Int} {w : World} (h : r = some (kind, t, n, k)) (hm : m = ((i + k : Nat) : Int)) : NdRet r i w (.returned (.tuple #[.int .i64 kind, .int .i64 n, .int .i64 m])) w := by subst h; subst hm; exact ⟨rfl, rfl⟩
theorem numS_bd (l : List Sg) : -1 ≤ numS l ∧ numS l ≤ 999999999 := by
  unfold numS
  split
  · omega
  · split <;> omega
theorem numbered_any (sv : Value) (s : List Sg) (i : Nat) (x : Sg) (w : World) (B : Nat) (h : RdL sgShape w B sv s) (hs : s.length ≤ 10000000) (hx : s[i]? = some x) (hl : x.letter = false) (hk0 : singleK x.c = 0) (hc : x.c = 94 ∨ x.c = 64 ∨ x.c = 126) :
    Calls Tryd.prog 40 #[sv, .int .i64 (i : Int)] w (NdRet (oneS (s.drop i)) i w) := by
  obtain ⟨A, cap, rfl, h1, h2⟩ := h.open_
  have H := Lib.hid h
  have hlt : i < s.length := (List.getElem?_eq_some_iff.1 hx).1
  obtain ⟨a, rfl, hab, c0, c1, c2, c3⟩ := at_sg h hx
  have HDR := Lib.hid (drop_get hx)
  have HX := Lib.hid hx
  have HL := Lib.hid hl
  have HK0 := Lib.hid hk0
  clear h hx hl hk0
  rcases hc with hc | hc | hc
  · rw [hc] at c0
    have HC := Lib.hid hc
    clear hc
    cases hp : plainS s (i + 1) 61 with
    | true =>
      obtain ⟨y, hy, hyl⟩ : ∃ y, s[i + 1]? = some y ∧ (y.letter = false ∧ y.c = 61) := by
        cases hy : s[i + 1]? with
        | none => unfold plainS at hp; rw [hy] at hp; cases hp
        | some y => rw [plainS_some 61 hy] at hp; exact ⟨y, rfl, of_decide_eq_true hp⟩
      have hlt2 : i + 1 < s.length := (List.getElem?_eq_some_iff.1 hy).1
      have HO : Hid (oneS (s.drop i) = if numS (s.drop (i + 2)) < 0 then none else some (19, [], numS (s.drop (i + 2)), 2 + (dgS (s.drop (i + 2))).length)) := Lib.hid (by
        rw [HDR.out, drop_get hy, oneS_cons]
        simp only [HL.out, HC.out, hyl, and_self, if_true, true_and, show ¬ (singleK 94 ≠ 0) from by decide, if_false, show ¬ ((94 : UInt8) = 64) from by decide])
      have HP := Lib.hid hp
      have hbd := numS_bd (s.drop (i + 2))
      have HN := Lib.hid (numberS_any (.slice (some a) s.length cap) s (i + 2) w B H.out hs (by omega))
      clear hp hy hyl
      go_enter Tryd.func40, Tryd.ntmps40
      go_wp2_with fail
      refine (plain_any (.slice (some a) s.length cap) s (i + 1) 61 w B H.out hs (by omega)).mono ?_
      rintro e w1 ⟨rfl, rfl⟩
      rw [HP.out]
      go_wp2_with fail
      refine HN.out.mono ?_
      rintro e w1 ⟨rfl, rfl⟩
      generalize numS (s.drop (i + 2)) = N at *
      by_cases hn : N < 0
      · have HR := Lib.hid (HO.out.trans (if_pos hn))
        go_wp2
        go_ret3
        exact ndRet_none HR.out
      · have HR := Lib.hid (HO.out.trans (if_neg hn))
        have hn2 : 0 ≤ N := by omega
        clear hn
        go_wp2
        go_ret3
        exact ndRet_some HR.out (by omega)
    | false =>
      have HO : Hid (oneS (s.drop i) = if numS (s.drop (i + 1)) < 0 then none else some (18, [], numS (s.drop (i + 1)), 1 + (dgS (s.drop (i + 1))).length)) := Lib.hid (by
        rw [HDR.out, oneS_cons]
        simp only [HL.out, HC.out, true_and, show ¬ (singleK 94 ≠ 0) from by decide, if_false, show ¬ ((94 : UInt8) = 64) from by decide, if_true]
        cases hy : s[i + 1]? with
        | none =>
          have e : s.drop (i + 1) = [] := List.drop_eq_nil_of_le (List.getElem?_eq_none_iff.1 hy)
          rw [e]
          rfl
        | some y =>
          have hny : ¬ (y.letter = false ∧ y.c = 61) := by rw [plainS_some 61 hy] at hp; exact of_decide_eq_false hp
          rw [drop_get hy]
          simp only []
          rw [if_neg hny])
      have HP := Lib.hid hp
      have hbd := numS_bd (s.drop (i + 1))
      have HN := Lib.hid (numberS_any (.slice (some a) s.length cap) s (i + 1) w B H.out hs (by omega))
      clear hp
      go_enter Tryd.func40, Tryd.ntmps40
      go_wp2_with fail
      refine (plain_any (.slice (some a) s.length cap) s (i + 1) 61 w B H.out hs (by omega)).mono ?_
      rintro e w1 ⟨rfl, rfl⟩
      rw [HP.out]
      go_wp2_with fail
      refine HN.out.mono ?_
      rintro e w1 ⟨rfl, rfl⟩
      generalize numS (s.drop (i + 1)) = N at *
      by_cases hn : N < 0
      · have HR := Lib.hid (HO.out.trans (if_pos hn))
        go_wp2
        go_ret3
        exact ndRet_none HR.out
      · have HR := Lib.hid (HO.out.trans (if_neg hn))
        have hn2 : 0 ≤ N := by omega
        clear hn
        go_wp2
        go_ret3
        exact ndRet_some HR.out (by omega)
  · rw [hc] at c0
    have HO : Hid (oneS (s.drop i) = if numS (s.drop (i + 1)) < 0 then none else some (21, [], numS (s.drop (i + 1)), 1 + (dgS (s.drop (i + 1))).length)) := Lib.hid (by
      rw [HDR.out, oneS_cons]
      simp only [HL.out, hc, true_and, show ¬ (singleK 64 ≠ 0) from by decide, if_false, if_true])
    have hbd := numS_bd (s.drop (i + 1))
    have HN := Lib.hid (numberS_any (.slice (some a) s.length cap) s (i + 1) w B H.out hs (by omega))
    clear hc
    go_enter Tryd.func40, Tryd.ntmps40
    go_wp2_with fail
    refine HN.out.mono ?_
    rintro e w1 ⟨rfl, rfl⟩
    generalize numS (s.drop (i + 1)) = N at *
    by_cases hn : N < 0
    · have HR := Lib.hid (HO.out.trans (if_pos hn))
      go_wp2
      go_ret3
      exact ndRet_none HR.out
    · have HR := Lib.hid (HO.out.trans (if_neg hn))
      have hn2 : 0 ≤ N := by omega
      clear hn
      go_wp2
      go_ret3
      exact ndRet_some HR.out (by omega)
  · rw [hc] at c0
    have HO : Hid (oneS (s.drop i) = if numS (s.drop (i + 1)) < 0 ∧ 0 < (dgS (s.drop (i + 1))).length then none else some (20, [], numS (s.drop (i + 1)), 1 + (dgS (s.drop (i + 1))).length)) := Lib.hid (by
      rw [HDR.out, oneS_cons]
      simp only [HL.out, hc, true_and, show ¬ (singleK 126 ≠ 0) from by decide, if_false, show ¬ ((126 : UInt8) = 64) from by decide, show ¬ ((126 : UInt8) = 94) from by decide, if_true])
    have hbd := numS_bd (s.drop (i + 1))
    have HN := Lib.hid (numberS_any (.slice (some a) s.length cap) s (i + 1) w B H.out hs (by omega))
    clear hc
    go_enter Tryd.func40, Tryd.ntmps40
    go_wp2_with fail
    refine HN.out.mono ?_
    rintro e w1 ⟨rfl, rfl⟩
    generalize numS (s.drop (i + 1)) = N at *
    generalize (dgS (s.drop (i + 1))).length = L at *
    by_cases hn : N < 0
    · by_cases hL : 0 < L
      · have HR := Lib.hid (HO.out.trans (if_pos ⟨hn, hL⟩))
        go_wp2
        go_ret3
        exact ndRet_none HR.out
      · have HR := Lib.hid (HO.out.trans (if_neg (fun h => hL h.2)))
        have hL0 : L = 0 := by omega
        subst hL0
        go_wp2
        go_ret3
        exact ndRet_some HR.out (by omega)
    · have HR := Lib.hid (HO.out.trans (if_neg (fun h => hn h.1)))
      have hn2 : 0 ≤ N := by omega
      clear hn
      go_wp2
      go_ret3
      exact ndRet_some HR.out (by omega)
end Go.Proofs.YtlgcofinmpckkaaDoor
