/- Layer 4: names, kinds, Find and Check, the code's and the reference's: what they answer. -/
import Derived.Test.YtdkalcecmdadeaaDoorFd
import Derived.Test.YtdkalcecmdadeaaDoorErrs
import Derived.Test.YtdkalcecmdadeaaDoorMapS
namespace Go.Proofs.YtdkalcecmdadeaaDoor
open Go.RowKit
set_option maxRecDepth 100000
set_option maxHeartbeats 1000000
set_option linter.unusedSimpArgs false
set_option linter.unusedVariables false

def goodCh (i : Nat) (c : UInt8) : Bool := decide ((97 ≤ c.toNat ∧ c.toNat ≤ 122) ∨ (i ≠ 0 ∧ (c.toNat = 95 ∨ (48 ≤ c.toNat ∧ c.toNat ≤ 57))))
def gnTo (l : List UInt8) : Nat → Bool
  | 0 => true
  | k + 1 => gnTo l k && goodCh k (l.getD k 0)
def goodNameL (l : List UInt8) : Bool := decide (1 ≤ l.length) && decide (l.length ≤ 32) && gnTo l l.length
theorem gnTo_false {l : List UInt8} {k n : Nat} (hk : k < n) (h : goodCh k (l.getD k 0) = false) : gnTo l n = false := by
  induction n with
  | zero => omega
  | succ n ih =>
    rw [gnTo]
    by_cases hn : k = n
    · subst hn; rw [h, Bool.and_false]
    · rw [ih (by omega), Bool.false_and]
theorem getDB (s : ByteArray) (k : Nat) (h : k < s.size) : s.data.toList.getD k 0 = s[k] := by
  rw [List.getD_eq_getElem?_getD, List.getElem?_eq_getElem (by rw [← ba_size]; exact h)]; rfl
theorem gn_bad {s : ByteArray} {k : Nat} (hk : k < s.size) (h : goodCh k s[k] = false) : goodNameL s.data.toList = false := by
  unfold goodNameL
  rw [gnTo_false (k := k) (by rw [← ba_size]; exact hk) (by rw [getDB s k hk]; exact h), Bool.and_false]
theorem gn_step {s : ByteArray} {k : Nat} (hk : k < s.size) (hg : gnTo s.data.toList k = true) (h : goodCh k s[k] = true) : gnTo s.data.toList (k + 1) = true := by
  rw [gnTo, hg, getDB s k hk, h]; rfl
def GnRel (s : ByteArray) (iv : Value) : Prop := ∃ k : Nat, k ≤ s.size ∧ gnTo s.data.toList k = true ∧ iv = .int .i64 (k : Int)

theorem goodName_any (s : ByteArray) (w : World) : Calls Tryd.prog 27 #[.string s] w fun e w' => e = .returned (.bool (goodNameL s.data.toList)) ∧ w = w' := by
  by_cases h1 : 1 ≤ s.size
  · by_cases h2 : s.size ≤ 32
    · go_enter Tryd.func27, Tryd.ntmps27
      go_wp2
      go_loop [16] (fun iv => GnRel s iv) (fun iv => s.size - (intOf iv).toNat)
      case atStart => exact ⟨0, by omega, rfl, rfl⟩
      case round =>
        obtain ⟨k, hk, hg, rfl⟩ := hrel
        have HG := Lib.hid hg; clear hg
        by_cases hlt : k < s.size
        · have hbx := u8_lt s[k]
          by_cases hc : goodCh k s[k] = true
          · have HN := Lib.hid (gn_step hlt HG.out hc)
            have hc2 := of_decide_eq_true hc
            clear hc
            rcases hc2 with ⟨g1, g2⟩ | ⟨g0, hc2⟩
            · have g1' : 97 ≤ (s[k].toNat : Int) := by omega
              have g2' : (s[k].toNat : Int) ≤ 122 := by omega
              clear g1 g2
              go_wp2
              go_round
              case rel => exact ⟨k + 1, by omega, HN.out, by go_num⟩
              case measure => simp [intOf]; omega
            · have hk0 : ((k : Int) == 0) = false := by rw [beq_eq_false_iff_ne]; omega
              by_cases hs : 97 ≤ (s[k].toNat : Int) ∧ (s[k].toNat : Int) ≤ 122
              · obtain ⟨g1', g2'⟩ := hs
                clear hc2 g0
                go_wp2
                go_round
                case rel => exact ⟨k + 1, by omega, HN.out, by go_num⟩
                case measure => simp [intOf]; omega
              · by_cases h95 : (s[k].toNat : Int) = 95
                · have e1 : ((s[k].toNat : Int) != 95) = false := by rw [h95]; rfl
                  have e3 : (s[k].toNat : Int) < 97 := by omega
                  clear hc2 hs h95 g0
                  go_wp2
                  go_round
                  case rel => exact ⟨k + 1, by omega, HN.out, by go_num⟩
                  case measure => simp [intOf]; omega
                · have e1 : ((s[k].toNat : Int) != 95) = true := by simp; exact h95
                  have e2 : 48 ≤ (s[k].toNat : Int) := by omega
                  have e3 : (s[k].toNat : Int) ≤ 57 := by omega
                  clear hc2 hs h95 g0
                  go_wp2
                  go_round
                  case rel => exact ⟨k + 1, by omega, HN.out, by go_num⟩
                  case measure => simp [intOf]; omega
          · have hc' : goodCh k s[k] = false := by simpa using hc
            have HN := Lib.hid (gn_bad hlt hc')
            have hc2 := of_decide_eq_false hc'
            clear hc hc'
            have gk : k = 0 ∨ k ≠ 0 := by omega
            have gs : (s[k].toNat : Int) < 97 ∨ 122 < (s[k].toNat : Int) := by omega
            rcases gk with gk | gk
            · have hk0 : ((k : Int) == 0) = true := by rw [beq_iff_eq]; omega
              clear gk hc2
              rcases gs with gs | gs
              · go_wp2
                go_ret
                exact ⟨congrArg (fun b => Ending.returned (.bool b)) HN.out.symm, rfl⟩
              · have g97 : 97 ≤ (s[k].toNat : Int) := by omega
                have d1 : decide ((s[k].toNat : Int) ≤ 122) = false := decide_eq_false (by omega)
                go_wp2
                go_ret
                exact ⟨congrArg (fun b => Ending.returned (.bool b)) HN.out.symm, rfl⟩
            · have hk0 : ((k : Int) == 0) = false := by rw [beq_eq_false_iff_ne]; omega
              have e1 : ((s[k].toNat : Int) != 95) = true := by simp; omega
              have e2 : (s[k].toNat : Int) < 48 ∨ 57 < (s[k].toNat : Int) := by omega
              clear gk hc2
              rcases gs with gs | gs
              · rcases e2 with e2 | e2
                · go_wp2
                  go_ret
                  exact ⟨congrArg (fun b => Ending.returned (.bool b)) HN.out.symm, rfl⟩
                · have e3 : ¬ (s[k].toNat : Int) < 48 := by omega
                  go_wp2
                  go_ret
                  exact ⟨congrArg (fun b => Ending.returned (.bool b)) HN.out.symm, rfl⟩
              · clear e2
                have g97 : 97 ≤ (s[k].toNat : Int) := by omega
                have g48 : ¬ (s[k].toNat : Int) < 48 := by omega
                have g57 : 57 < (s[k].toNat : Int) := by omega
                have d1 : decide ((s[k].toNat : Int) ≤ 122) = false := decide_eq_false (by omega)
                go_wp2
                go_ret
                exact ⟨congrArg (fun b => Ending.returned (.bool b)) HN.out.symm, rfl⟩
        · have HN := Lib.hid (show goodNameL s.data.toList = true from by
            unfold goodNameL
            have h := HG.out
            have e : k = s.data.toList.length := by rw [← ba_size]; omega
            rw [← e, h]
            have f1 : decide (1 ≤ k) = true := decide_eq_true (by rw [ba_size] at h1; omega)
            have f2 : decide (k ≤ 32) = true := decide_eq_true (by rw [ba_size] at h2; omega)
            rw [f1, f2]; rfl)
          go_wp2
          go_ret
          exact ⟨congrArg (fun b => Ending.returned (.bool b)) HN.out.symm, rfl⟩
    · have HN := Lib.hid (show goodNameL s.data.toList = false from by
        unfold goodNameL
        rw [ba_size] at h2
        rw [decide_eq_false h2, Bool.and_false, Bool.false_and])
      have h2' : 32 < s.size := by omega
      go_enter Tryd.func27, Tryd.ntmps27
      go_wp2
      go_ret
      exact ⟨congrArg (fun b => Ending.returned (.bool b)) HN.out.symm, rfl⟩
  · have HN := Lib.hid (show goodNameL s.data.toList = false from by
      unfold goodNameL
      rw [ba_size] at h1
      rw [decide_eq_false h1, Bool.false_and, Bool.false_and])
    have h1' : s.size < 1 := by omega
    go_enter Tryd.func27, Tryd.ntmps27
    go_wp2
    go_ret
    exact ⟨congrArg (fun b => Ending.returned (.bool b)) HN.out.symm, rfl⟩

theorem rgoodName_any (s : ByteArray) (w : World) : Calls Tryd.prog 29 #[.string s] w fun e w' => e = .returned (.bool (goodNameL s.data.toList)) ∧ w = w' := by
  by_cases h1 : 1 ≤ s.size
  · by_cases h2 : s.size ≤ 32
    · go_enter Tryd.func29, Tryd.ntmps29
      go_wp2
      go_loop [3] (fun iv => GnRel s iv) (fun iv => s.size - (intOf iv).toNat)
      case atStart => exact ⟨0, by omega, rfl, rfl⟩
      case round =>
        obtain ⟨k, hk, hg, rfl⟩ := hrel
        have HG := Lib.hid hg; clear hg
        by_cases hlt : k < s.size
        · have hbx := u8_lt s[k]
          by_cases hc : goodCh k s[k] = true
          · have HN := Lib.hid (gn_step hlt HG.out hc)
            have hc2 := of_decide_eq_true hc
            clear hc
            rcases hc2 with ⟨g1, g2⟩ | ⟨g0, hc2⟩
            · have g1' : 97 ≤ (s[k].toNat : Int) := by omega
              have g2' : (s[k].toNat : Int) ≤ 122 := by omega
              clear g1 g2
              go_wp2
              go_round
              case rel => exact ⟨k + 1, by omega, HN.out, by go_num⟩
              case measure => simp [intOf]; omega
            · have hk0 : ((k : Int) == 0) = false := by rw [beq_eq_false_iff_ne]; omega
              by_cases hs : 97 ≤ (s[k].toNat : Int) ∧ (s[k].toNat : Int) ≤ 122
              · obtain ⟨g1', g2'⟩ := hs
                clear hc2 g0
                go_wp2
                go_round
                case rel => exact ⟨k + 1, by omega, HN.out, by go_num⟩
                case measure => simp [intOf]; omega
              · by_cases h95 : (s[k].toNat : Int) = 95
                · have e1 : ((s[k].toNat : Int) != 95) = false := by rw [h95]; rfl
                  have e3 : (s[k].toNat : Int) < 97 := by omega
                  clear hc2 hs h95 g0
                  go_wp2
                  go_round
                  case rel => exact ⟨k + 1, by omega, HN.out, by go_num⟩
                  case measure => simp [intOf]; omega
                · have e1 : ((s[k].toNat : Int) != 95) = true := by simp; exact h95
                  have e2 : 48 ≤ (s[k].toNat : Int) := by omega
                  have e3 : (s[k].toNat : Int) ≤ 57 := by omega
                  clear hc2 hs h95 g0
                  go_wp2
                  go_round
                  case rel => exact ⟨k + 1, by omega, HN.out, by go_num⟩
                  case measure => simp [intOf]; omega
          · have hc' : goodCh k s[k] = false := by simpa using hc
            have HN := Lib.hid (gn_bad hlt hc')
            have hc2 := of_decide_eq_false hc'
            clear hc hc'
            have gk : k = 0 ∨ k ≠ 0 := by omega
            have gs : (s[k].toNat : Int) < 97 ∨ 122 < (s[k].toNat : Int) := by omega
            rcases gk with gk | gk
            · have hk0 : ((k : Int) == 0) = true := by rw [beq_iff_eq]; omega
              clear gk hc2
              rcases gs with gs | gs
              · go_wp2
                go_ret
                exact ⟨congrArg (fun b => Ending.returned (.bool b)) HN.out.symm, rfl⟩
              · have g97 : 97 ≤ (s[k].toNat : Int) := by omega
                have d1 : decide ((s[k].toNat : Int) ≤ 122) = false := decide_eq_false (by omega)
                go_wp2
                go_ret
                exact ⟨congrArg (fun b => Ending.returned (.bool b)) HN.out.symm, rfl⟩
            · have hk0 : ((k : Int) == 0) = false := by rw [beq_eq_false_iff_ne]; omega
              have e1 : ((s[k].toNat : Int) != 95) = true := by simp; omega
              have e2 : (s[k].toNat : Int) < 48 ∨ 57 < (s[k].toNat : Int) := by omega
              clear gk hc2
              rcases gs with gs | gs
              · rcases e2 with e2 | e2
                · go_wp2
                  go_ret
                  exact ⟨congrArg (fun b => Ending.returned (.bool b)) HN.out.symm, rfl⟩
                · have e3 : ¬ (s[k].toNat : Int) < 48 := by omega
                  go_wp2
                  go_ret
                  exact ⟨congrArg (fun b => Ending.returned (.bool b)) HN.out.symm, rfl⟩
              · clear e2
                have g97 : 97 ≤ (s[k].toNat : Int) := by omega
                have g48 : ¬ (s[k].toNat : Int) < 48 := by omega
                have g57 : 57 < (s[k].toNat : Int) := by omega
                have d1 : decide ((s[k].toNat : Int) ≤ 122) = false := decide_eq_false (by omega)
                go_wp2
                go_ret
                exact ⟨congrArg (fun b => Ending.returned (.bool b)) HN.out.symm, rfl⟩
        · have HN := Lib.hid (show goodNameL s.data.toList = true from by
            unfold goodNameL
            have h := HG.out
            have e : k = s.data.toList.length := by rw [← ba_size]; omega
            rw [← e, h]
            have f1 : decide (1 ≤ k) = true := decide_eq_true (by rw [ba_size] at h1; omega)
            have f2 : decide (k ≤ 32) = true := decide_eq_true (by rw [ba_size] at h2; omega)
            rw [f1, f2]; rfl)
          go_wp2
          go_ret
          exact ⟨congrArg (fun b => Ending.returned (.bool b)) HN.out.symm, rfl⟩
    · have HN := Lib.hid (show goodNameL s.data.toList = false from by
        unfold goodNameL
        rw [ba_size] at h2
        rw [decide_eq_false h2, Bool.and_false, Bool.false_and])
      have h2' : 32 < s.size := by omega
      go_enter Tryd.func29, Tryd.ntmps29
      go_wp2
      go_ret
      exact ⟨congrArg (fun b => Ending.returned (.bool b)) HN.out.symm, rfl⟩
  · have HN := Lib.hid (show goodNameL s.data.toList = false from by
      unfold goodNameL
      rw [ba_size] at h1
      rw [decide_eq_false h1, Bool.false_and, Bool.false_and])
    have h1' : s.size < 1 := by omega
    go_enter Tryd.func29, Tryd.ntmps29
    go_wp2
    go_ret
    exact ⟨congrArg (fun b => Ending.returned (.bool b)) HN.out.symm, rfl⟩

def goodKindF (f : Fd) : Bool := decide (f.kind = 1) || ((decide (f.kind = 2) || decide (f.kind = 3)) && (!f.fold && !f.stop && !f.stem))
theorem goodKind_any (f : Fd) (w : World) : Calls Tryd.prog 28 #[f.val] w fun e w' => e = .returned (.bool (goodKindF f)) ∧ Below w.heap.size w w' := by
  obtain ⟨nm, kd, a, b, c⟩ := f
  unfold Fd.val
  by_cases h1 : kd = 1
  · subst h1
    go_enter Tryd.func28, Tryd.ntmps28
    go_wp2
    go_ret
    exact ⟨rfl, (Below.refl _ _).alloc (Nat.le_refl _) _⟩
  · by_cases h2 : kd = 2
    · subst h2
      cases a <;> cases b <;> cases c
      all_goals
        go_enter Tryd.func28, Tryd.ntmps28
        go_wp2
        go_ret
        exact ⟨rfl, (Below.refl _ _).alloc (Nat.le_refl _) _⟩
    · by_cases h3 : kd = 3
      · subst h3
        cases a <;> cases b <;> cases c
        all_goals
          go_enter Tryd.func28, Tryd.ntmps28
          go_wp2
          go_ret
          exact ⟨rfl, (Below.refl _ _).alloc (Nat.le_refl _) _⟩
      · have e1 : (kd == 1) = false := beq_eq_false_iff_ne.2 h1
        have e2 : (kd == 2) = false := beq_eq_false_iff_ne.2 h2
        have e3 : (kd == 3) = false := beq_eq_false_iff_ne.2 h3
        have HN := Lib.hid (show goodKindF ⟨nm, kd, a, b, c⟩ = false from by simp [goodKindF, h1, h2, h3])
        clear h1 h2 h3
        go_enter Tryd.func28, Tryd.ntmps28
        go_wp2
        go_ret
        exact ⟨congrArg (fun b => Ending.returned (.bool b)) HN.out.symm, (Below.refl _ _).alloc (Nat.le_refl _) _⟩

end Go.Proofs.YtdkalcecmdadeaaDoor