/- The walks of the lexer's single, number and quoted. -/
import Derived.Test.YtlgcofinmpckkaaDoorSp
import Derived.Test.YtlgcofinmpckkaaDoorLw
import Derived.Test.YtlgcofinmpckkaaDoorOwnL
namespace Go.Proofs.YtlgcofinmpckkaaDoor
open Go.RowKit
set_option maxRecDepth 100000
set_option maxHeartbeats 1000000

theorem single_any (c : UInt8) (w : World) :
    Calls Tryd.prog 35 #[.int .u8 (c.toNat : Int)] w fun e w' => e = .returned (.int .i64 (singleK c)) ∧ w = w' := by
  have hb : ∀ d : UInt8, ((c.toNat : Int) == (d.toNat : Int)) = decide (c = d) := fun d => by
    rw [Bool.eq_iff_iff, beq_iff_eq, decide_eq_true_iff]; exact ⟨byte_eq, fun h => by rw [h]⟩
  have e1 := hb 40; have e2 := hb 41; have e3 := hb 91; have e4 := hb 93; have e5 := hb 123; have e6 := hb 125; have e7 := hb 58; have e8 := hb 43; have e9 := hb 45; have e10 := hb 124
  simp only [show ((40 : UInt8).toNat : Int) = 40 from rfl, show ((41 : UInt8).toNat : Int) = 41 from rfl, show ((91 : UInt8).toNat : Int) = 91 from rfl, show ((93 : UInt8).toNat : Int) = 93 from rfl, show ((123 : UInt8).toNat : Int) = 123 from rfl, show ((125 : UInt8).toNat : Int) = 125 from rfl, show ((58 : UInt8).toNat : Int) = 58 from rfl, show ((43 : UInt8).toNat : Int) = 43 from rfl, show ((45 : UInt8).toNat : Int) = 45 from rfl, show ((124 : UInt8).toNat : Int) = 124 from rfl] at e1 e2 e3 e4 e5 e6 e7 e8 e9 e10
  clear hb
  generalize hk : singleK c = K
  unfold singleK at hk
  have HK := Lib.hid hk; clear hk
  generalize (c.toNat : Int) = x at *
  go_enter Tryd.func35, Tryd.ntmps35
  go_wp2
  all_goals go_ret
  all_goals refine ⟨?_, rfl⟩
  all_goals (have h := HK.out; simp_all)

/-- number's answer at place i -/
def NumAt (s : ByteArray) (i : Nat) (w : World) (e : Ending) (w' : World) : Prop :=
  e = .returned (.tuple #[.int .i64 ((i + (digs (s.data.toList.drop i)).length : Nat) : Int), .int .i64 (ncap (digs (s.data.toList.drop i)) : Int), .bool (numOkB (s.data.toList.drop i))]) ∧ w = w'
def NRel (s : ByteArray) (i : Nat) (iv vv : Value) : Prop :=
  ∃ p : List UInt8, i + p.length ≤ s.size ∧ digs (s.data.toList.drop i) = p ++ digs (s.data.toList.drop (i + p.length)) ∧ iv = .int .i64 ((i + p.length : Nat) : Int) ∧ vv = .int .i64 (ncap p : Int)
theorem dropB (s : ByteArray) {k : Nat} (h : k < s.size) : s.data.toList.drop k = s[k] :: s.data.toList.drop (k + 1) :=
  List.drop_eq_getElem_cons (l := s.data.toList) (by rw [← ba_size]; exact h)
theorem dropB_nil (s : ByteArray) {k : Nat} (h : s.size ≤ k) : s.data.toList.drop k = [] := List.drop_eq_nil_of_le (by rw [← ba_size]; exact h)
theorem digs_yes {c : UInt8} {t : List UInt8} (h : isDg c = true) : digs (c :: t) = c :: digs t := by unfold digs; rw [List.takeWhile_cons, h]; rfl
theorem digs_no {c : UInt8} {t : List UInt8} (h : isDg c = false) : digs (c :: t) = [] := by unfold digs; rw [List.takeWhile_cons, h]; rfl

theorem NumEnd {a b p : List UInt8} (h : digs a = p ++ digs b) (h2 : digs b = []) : digs a = p := by rw [h, h2, List.append_nil]

theorem number_any (s : ByteArray) (i : Nat) (w : World) (hs : s.size ≤ 100000000) (hi : i ≤ s.size) :
    Calls Tryd.prog 38 #[.string s, .int .i64 (i : Int)] w (NumAt s i w) := by
  go_enter Tryd.func38, Tryd.ntmps38
  go_wp2
  go_loop [1, 8] (fun iv vv => NRel s i iv vv) (fun iv _ => s.size - (intOf iv).toNat)
  case atStart => exact ⟨[], by simpa using hi, rfl, rfl, rfl⟩
  case round =>
    obtain ⟨p, hp, hd, rfl, rfl⟩ := hrel
    have HD := Lib.hid hd; clear hd
    have hnc := ncap_le p
    generalize hk : i + p.length = k at *
    have HK := Lib.hid hk; clear hk
    by_cases hlt : k < s.size
    · by_cases hdg : 48 ≤ (s[k].toNat : Int) ∧ (s[k].toNat : Int) ≤ 57
      · obtain ⟨g1, g2⟩ := hdg
        have HY := Lib.hid (digs_yes (t := s.data.toList.drop (k + 1)) (show isDg s[k] = true from by unfold isDg; rw [decide_eq_true_iff]; omega))
        go_wp2
        go_round
        case rel =>
          refine ⟨p ++ [s[k]], ?_, ?_, ?_, ?_⟩
          · rw [List.length_append, List.length_singleton]; have := HK.out; omega
          · rw [HD.out, dropB s hlt, HY.out, List.append_assoc, List.length_append, List.length_singleton, ← Nat.add_assoc, HK.out]; rfl
          · rw [List.length_append, List.length_singleton, ← Nat.add_assoc, HK.out]; go_num
          · rw [ncap_snoc]
            refine congrArg _ ?_
            split <;> omega
        case measure => simp [intOf]; omega
      · have HY := Lib.hid (show digs (s.data.toList.drop k) = [] from by rw [dropB s hlt]; exact digs_no (show isDg s[k] = false from by unfold isDg; rw [decide_eq_false_iff_not]; omega))
        have hcc : (s[k].toNat : Int) < 48 ∨ 57 < (s[k].toNat : Int) := by omega
        clear hdg
        rcases hcc with hcc | hcc
        · have HF := Lib.hid (NumEnd HD.out HY.out)
          by_cases hp0 : i < k
          · have HB : Hid (numOkB (s.data.toList.drop i) = decide ((ncap p : Int) ≤ 999999999)) := by
              unfold Hid numOkB; rw [HF.out, Bool.eq_iff_iff, decide_eq_true_iff, decide_eq_true_iff]; have := HK.out; omega
            go_wp2
            go_ret3
            exact ⟨by rw [HB.out, HF.out, HK.out]; rfl, rfl⟩
          · have HB : Hid (numOkB (s.data.toList.drop i) = false) := by unfold Hid numOkB; rw [HF.out, decide_eq_false_iff_not]; have := HK.out; omega
            go_wp2
            go_ret3
            exact ⟨by rw [HB.out, HF.out, HK.out]; rfl, rfl⟩
        · have HF := Lib.hid (NumEnd HD.out HY.out)
          by_cases hp0 : i < k
          · have HB : Hid (numOkB (s.data.toList.drop i) = decide ((ncap p : Int) ≤ 999999999)) := by
              unfold Hid numOkB; rw [HF.out, Bool.eq_iff_iff, decide_eq_true_iff, decide_eq_true_iff]; have := HK.out; omega
            go_wp2
            go_ret3
            exact ⟨by rw [HB.out, HF.out, HK.out]; rfl, rfl⟩
          · have HB : Hid (numOkB (s.data.toList.drop i) = false) := by unfold Hid numOkB; rw [HF.out, decide_eq_false_iff_not]; have := HK.out; omega
            go_wp2
            go_ret3
            exact ⟨by rw [HB.out, HF.out, HK.out]; rfl, rfl⟩
    · have HY := Lib.hid (show digs (s.data.toList.drop k) = [] from by rw [dropB_nil s (by omega)]; rfl)
      have HF := Lib.hid (NumEnd HD.out HY.out)
      by_cases hp0 : i < k
      · have HB : Hid (numOkB (s.data.toList.drop i) = decide ((ncap p : Int) ≤ 999999999)) := by
          unfold Hid numOkB; rw [HF.out, Bool.eq_iff_iff, decide_eq_true_iff, decide_eq_true_iff]; have := HK.out; omega
        go_wp2
        go_ret3
        exact ⟨by rw [HB.out, HF.out, HK.out]; rfl, rfl⟩
      · have HB : Hid (numOkB (s.data.toList.drop i) = false) := by unfold Hid numOkB; rw [HF.out, decide_eq_false_iff_not]; have := HK.out; omega
        go_wp2
        go_ret3
        exact ⟨by rw [HB.out, HF.out, HK.out]; rfl, rfl⟩
end Go.Proofs.YtlgcofinmpckkaaDoor
