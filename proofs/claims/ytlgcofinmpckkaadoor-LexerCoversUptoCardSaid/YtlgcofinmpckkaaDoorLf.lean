/- The walk of the law LexerFaults. -/
import Derived.Test.YtlgcofinmpckkaaDoorLv
import Derived.Test.YtlgcofinmpckkaaDoorFp
namespace Go.Proofs.YtlgcofinmpckkaaDoor
open Go.RowKit
set_option maxRecDepth 100000
set_option maxHeartbeats 1000000
set_option linter.unusedSimpArgs false

def isBl (c : UInt8) : Bool := decide (cls c = 1)
theorem bl_eq (c : UInt8) : isBl c = decide (c = 32 ∨ c = 9 ∨ c = 10 ∨ c = 13) := by
  have := all_bytes (p := fun c => isBl c == decide (c = 32 ∨ c = 9 ∨ c = 10 ∨ c = 13)) (by decide +kernel) c
  exact beq_iff_eq.1 this
def BlRel (s : ByteArray) (iv : Value) : Prop := ∃ k : Nat, k ≤ s.size ∧ (s.data.toList.take k).all isBl = true ∧ iv = .int .i64 (k : Int)
theorem take_all {s : ByteArray} {k : Nat} (hk : k < s.size) (h : (s.data.toList.take k).all isBl = true) (hb : isBl s[k] = true) : (s.data.toList.take (k + 1)).all isBl = true := by
  have hk2 : k < s.data.toList.length := by rw [← ba_size]; exact hk
  rw [List.take_succ_eq_append_getElem hk2, List.all_append, h]
  simp only [Bool.true_and, List.all_cons, List.all_nil, Bool.and_true]
  exact hb
theorem not_all {s : ByteArray} {k : Nat} (hk : k < s.size) (hb : isBl s[k] = false) : s.data.toList.all isBl = false := by
  rw [List.all_eq_false]
  refine ⟨s[k], ?_, by simp [hb]⟩
  have hk2 : k < s.data.toList.length := by rw [← ba_size]; exact hk
  exact List.getElem_mem hk2
theorem blanks_any (s : ByteArray) (w : World) (hs : s.size ≤ 100000000) :
    Calls Tryd.prog 20 #[.string s] w fun e w' => e = .returned (.bool (s.data.toList.all isBl)) ∧ w = w' := by
  go_enter Tryd.func20, Tryd.ntmps20
  go_wp2
  go_loop [3] (fun iv => BlRel s iv) (fun iv => s.size - (intOf iv).toNat)
  case atStart => exact ⟨0, by omega, by simp, rfl⟩
  case round =>
    obtain ⟨k, hk, hal, rfl⟩ := hrel
    have HA := Lib.hid hal; clear hal
    by_cases hlt : k < s.size
    · have hbx := u8_lt s[k]
      have b1 := byte_beq s[k] 32; have b2 := byte_beq s[k] 9; have b3 := byte_beq s[k] 10; have b4 := byte_beq s[k] 13
      simp only [show ((32 : UInt8).toNat : Int) = 32 from rfl, show ((9 : UInt8).toNat : Int) = 9 from rfl, show ((10 : UInt8).toNat : Int) = 10 from rfl, show ((13 : UInt8).toNat : Int) = 13 from rfl] at b1 b2 b3 b4
      have hbl := bl_eq s[k]
      by_cases hb : isBl s[k] = true
      · have HN := Lib.hid (take_all hlt HA.out hb)
        rw [hb] at hbl
        have hor := of_decide_eq_true hbl.symm
        clear hbl hb
        rcases hor with h | h | h | h
        all_goals
          have e1 : ((s[k].toNat : Int) != 32) = decide (s[k] ≠ 32) := by rw [bne, b1, h]; decide
          have e2 : ((s[k].toNat : Int) != 9) = decide (s[k] ≠ 9) := by rw [bne, b2, h]; decide
          have e3 : ((s[k].toNat : Int) != 10) = decide (s[k] ≠ 10) := by rw [bne, b3, h]; decide
          have e4 : ((s[k].toNat : Int) != 13) = decide (s[k] ≠ 13) := by rw [bne, b4, h]; decide
          rw [h] at e1 e2 e3 e4
          simp only [show decide ((32 : UInt8) ≠ 32) = false from by decide, show decide ((32 : UInt8) ≠ 9) = true from by decide, show decide ((32 : UInt8) ≠ 10) = true from by decide, show decide ((32 : UInt8) ≠ 13) = true from by decide,
            show decide ((9 : UInt8) ≠ 32) = true from by decide, show decide ((9 : UInt8) ≠ 9) = false from by decide, show decide ((9 : UInt8) ≠ 10) = true from by decide, show decide ((9 : UInt8) ≠ 13) = true from by decide,
            show decide ((10 : UInt8) ≠ 32) = true from by decide, show decide ((10 : UInt8) ≠ 9) = true from by decide, show decide ((10 : UInt8) ≠ 10) = false from by decide, show decide ((10 : UInt8) ≠ 13) = true from by decide,
            show decide ((13 : UInt8) ≠ 32) = true from by decide, show decide ((13 : UInt8) ≠ 9) = true from by decide, show decide ((13 : UInt8) ≠ 10) = true from by decide, show decide ((13 : UInt8) ≠ 13) = false from by decide] at e1 e2 e3 e4
          have hv : (s[k].toNat : Int) = s[k].toNat := rfl
          rw [h] at hv
          rw [← h] at e1 e2 e3 e4
          clear b1 b2 b3 b4 h hv
          go_wp2
          go_round
          case rel => exact ⟨k + 1, by omega, HN.out, by go_num⟩
          case measure => simp [intOf]; omega
      · have hb' : isBl s[k] = false := by simpa using hb
        have HN := Lib.hid (not_all hlt hb')
        rw [hb'] at hbl
        have hno := of_decide_eq_false hbl.symm
        have e1 : ((s[k].toNat : Int) != 32) = true := by rw [bne, b1]; simp; exact fun h => hno (.inl h)
        have e2 : ((s[k].toNat : Int) != 9) = true := by rw [bne, b2]; simp; exact fun h => hno (.inr (.inl h))
        have e3 : ((s[k].toNat : Int) != 10) = true := by rw [bne, b3]; simp; exact fun h => hno (.inr (.inr (.inl h)))
        have e4 : ((s[k].toNat : Int) != 13) = true := by rw [bne, b4]; simp; exact fun h => hno (.inr (.inr (.inr h)))
        clear b1 b2 b3 b4 hbl hno hb hb'
        go_wp2
        go_ret
        exact ⟨congrArg (fun b => Ending.returned (.bool b)) (by have h := HN.out; rw [← h]; simp), rfl⟩
    · have HN : Hid (s.data.toList.all isBl = true) := by
        have h := HA.out
        rw [List.take_of_length_le (by rw [← ba_size]; omega)] at h
        exact h
      go_wp2
      go_ret
      exact ⟨congrArg (fun b => Ending.returned (.bool b)) (by have h := HN.out; rw [← h]; simp), rfl⟩

theorem faults_walk (s : ByteArray) (w : World) (v : Value) (hs : s.size ≤ 10000000) (hE : LexEnv w v) :
    Calls Tryd.prog 7 #[.string s] w fun e w' => e = .returned (.bool true) ∧ Below w.heap.size w w' := by
  have HE := Lib.hid hE; clear hE
  go_enter Tryd.func7, Tryd.ntmps7
  go_wp2_with fail
  refine (lives_any w v HE.out).mono ?_
  rintro e w1 ⟨rfl, hb1⟩
  have HE1 := Lib.hid (HE.out.below hb1)
  have HB1 := Lib.hid hb1; clear hb1
  go_wp2_with fail
  refine (Scan_any s w1 v hs HE1.out.cls HE1.out.at_).mono ?_
  rintro e w2 ⟨hb2, hm⟩
  have HE2 := Lib.hid (HE1.out.below hb2)
  have HB2 := Lib.hid (HB1.out.trans (hb2.mono HB1.out.size))
  clear hb2
  rcases hr : scanL s.data.toList with ⟨l, _ | p⟩
  · rw [hr] at hm
    obtain ⟨sl, rfl, -⟩ := hm
    clear hr
    go_wp2
    go_ret
    exact ⟨rfl, HB2.out⟩
  · rw [hr] at hm
    subst hm
    obtain ⟨hp, ⟨c, t, hd, hc⟩, hpre, hsuf⟩ := scanL_some (q := s.data.toList) (p := p) (by rw [hr])
    rw [← ba_size] at hp
    have HS1 := Lib.hid (show (scanL (s.extract 0 p).data.toList).2 = none from by rw [Lib.extract_data, List.drop_zero, Nat.sub_zero]; exact hpre)
    have HS2 := Lib.hid (show scanL (s.extract p s.size).data.toList = ([], some 0) from by
      rw [Lib.extract_data, List.take_of_length_le (by rw [List.length_drop, ← ba_size]; exact Nat.le_refl _)]; exact hsuf)
    have HBL := Lib.hid (show (s.extract p (p + 1)).data.toList.all isBl = false from by
      rw [Lib.extract_data, hd, show p + 1 - p = 1 from by omega]; simp [isBl, hc])
    have hz1 : (s.extract 0 p).size ≤ 10000000 := by rw [ByteArray.size_extract]; omega
    have hz2 : (s.extract p s.size).size ≤ 10000000 := by rw [ByteArray.size_extract]; omega
    have hz3 : (s.extract p (p + 1)).size ≤ 100000000 := by rw [ByteArray.size_extract]; omega
    clear hr hd hc hpre hsuf
    have k1 := fun W => err_nil HE2.out.val W
    have k2 := fun W => err_neq HE2.out.val W
    have k3 := fun op x y W => err_guard HE2.out.val op x y W
    have k4 := fun op x y W => err_guard0 HE2.out.val op x y W
    have k5 := fun W => err_eq HE2.out.val W
    have cv := HE2.out.at_.1
    go_wp2_with fail
    refine (blanks_any (s.extract p (p + 1)) w2 hz3).mono ?_
    rintro e w2' ⟨rfl, rfl⟩
    rw [HBL.out]
    go_wp2_with fail
    refine (Scan_any (s.extract 0 p) w2 v hz1 HE2.out.cls HE2.out.at_).mono ?_
    rintro e w3 ⟨hb3, hm⟩
    rw [HS1.out] at hm
    obtain ⟨sl, rfl, -⟩ := hm
    have HE3 := Lib.hid (HE2.out.below hb3)
    have HB3 := Lib.hid (HB2.out.trans (hb3.mono HB2.out.size))
    clear hb3 cv
    go_wp2_with fail
    refine (Scan_any (s.extract p s.size) w3 v hz2 HE3.out.cls HE3.out.at_).mono ?_
    rintro e w4 ⟨hb4, hm⟩
    rw [HS2.out] at hm
    subst hm
    have HE4 := Lib.hid (HE3.out.below hb4)
    have HB4 := Lib.hid (HB3.out.trans (hb4.mono HB3.out.size))
    clear hb4
    have cv := HE4.out.at_.1
    go_wp2
    go_ret
    exact ⟨rfl, HB4.out⟩
theorem lexerFaults_env {W : World} (h : laidMetH Tryd.prog Rows.lexerFaultsUptoRow.laid W) : ∃ v, LexEnv W v := lexEnv_of h
theorem lexerFaults_walk (a0 : ByteArray) (w0 : a0.size ≤ 1048576) (w : World) (hE : ∃ v, LexEnv w v) :
    Calls Tryd.prog 7 #[.string a0] w fun e w' => e = .returned (.bool true) ∧ Below w.heap.size w w' := by
  obtain ⟨v, hE⟩ := hE
  exact faults_walk a0 w v (by omega) hE
end Go.Proofs.YtlgcofinmpckkaaDoor
