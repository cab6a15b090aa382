/- The walks of Quote, and of the reference's Word and Quote. -/
import Derived.Test.YtlgcofinmpckkaaDoorLr
namespace Go.Proofs.YtlgcofinmpckkaaDoor
open Go.RowKit
set_option maxRecDepth 100000
set_option maxHeartbeats 1000000

/-- the reference's Word, behind k bytes -/
def WRel (s : ByteArray) (w : World) (v i : Value) (wr : World) : Prop :=
  ∃ k : Nat, k ≤ s.size ∧ i = .int .i64 k ∧ OwnB wr w.heap.size v (lettersTo true s.data.toList k) ∧ Below w.heap.size w wr
theorem kwd_none {s : ByteArray} (h : kwd s.data.toList = 1) : (s.toList == [65, 78, 68]) = false ∧ (s.toList == [79, 82]) = false ∧ (s.toList == [78, 79, 84]) = false ∧ (s.toList == [84, 79]) = false := by
  obtain ⟨e1, e2, e3, e4⟩ := kwd_toList s
  unfold kwd at h
  rw [e1, e2, e3, e4]
  by_cases h1 : s.data.toList = [65, 78, 68]
  · rw [if_pos h1] at h; omega
  · rw [if_neg h1] at h
    by_cases h2 : s.data.toList = [79, 82]
    · rw [if_pos h2] at h; omega
    · rw [if_neg h2] at h
      by_cases h3 : s.data.toList = [78, 79, 84]
      · rw [if_pos h3] at h; omega
      · rw [if_neg h3] at h
        by_cases h4 : s.data.toList = [84, 79]
        · rw [if_pos h4] at h; omega
        · simp [h1, h2, h3, h4]
theorem kwd_some {s : ByteArray} (h : kwd s.data.toList ≠ 1) : (s.toList == [65, 78, 68]) = true ∨ (s.toList == [65, 78, 68]) = false ∧ (s.toList == [79, 82]) = true ∨ (s.toList == [65, 78, 68]) = false ∧ (s.toList == [79, 82]) = false ∧ (s.toList == [78, 79, 84]) = true ∨ (s.toList == [65, 78, 68]) = false ∧ (s.toList == [79, 82]) = false ∧ (s.toList == [78, 79, 84]) = false ∧ (s.toList == [84, 79]) = true := by
  obtain ⟨e1, e2, e3, e4⟩ := kwd_toList s
  unfold kwd at h
  rw [e1, e2, e3, e4]
  by_cases h1 : s.data.toList = [65, 78, 68]
  · simp [h1]
  · rw [if_neg h1] at h
    by_cases h2 : s.data.toList = [79, 82]
    · simp [h2]
    · rw [if_neg h2] at h
      by_cases h3 : s.data.toList = [78, 79, 84]
      · simp [h3]
      · rw [if_neg h3] at h
        by_cases h4 : s.data.toList = [84, 79]
        · simp [h4]
        · rw [if_neg h4] at h; exact absurd rfl h
theorem word_kw {s : ByteArray} (h : kwd s.data.toList ≠ 1) : (⟨#[92]⟩ : ByteArray) ++ s = str (wordL s.data.toList) :=
  ba_ext (by rw [ba_append, str_data]; unfold wordL; rw [if_pos h]; rfl)

theorem refWord_any (s : ByteArray) (w : World) (hs : s.size ≤ 10000000) :
    Calls Tryd.prog 11 #[.string s] w fun e w' => e = .returned (.string (str (wordL s.data.toList))) ∧ Below w.heap.size w w' := by
  have hs1 : s.size ≤ 10000000 := hs
  by_cases hk : kwd s.data.toList = 1
  · obtain ⟨e1, e2, e3, e4⟩ := kwd_none hk
    have HK := Lib.hid hk; clear hk
    go_enter Tryd.func11, Tryd.ntmps11
    go_wp2
    clear e1 e2 e3 e4
    go_loopw [3, 4] (fun v i wr => WRel s w v i wr) (fun _ i _ => s.size - (intOf i).toNat)
    case atStart => exact ⟨0, by omega, rfl, OwnB.lit0 w (Nat.le_refl _), (Below.refl _ _).alloc (Nat.le_refl _) _⟩
    case round =>
      obtain ⟨k, hk, rfl, ho, hb⟩ := hrel
      have HO := Lib.hid ho; clear ho
      by_cases hlt : k < s.size
      · go_wp2_with fail
        refine (escaped_any s[k] _ _).mono ?_
        rintro e w1 hR
        obtain ⟨x, rfl, hx, hb1⟩ := hR
        have HX := Lib.hid hx; clear hx
        have HO1 := Lib.hid (HO.out.below hb1)
        have hl := Lib.hid (lettersTo_length true s.data.toList k)
        have hl2 := Lib.hid (esc_length ((k : Int) == 0) s[k])
        have hBr := Nat.le_trans hb.size hb1.size
        go_wp2_with (at_builtin; refine OwnB.appendAll HO1.out HX.out rfl _ _ rfl rfl rfl hBr ?_ ?_)
        · have := hl.out; have := hl2.out; omega
        · intro v' w' h2 h3
          have H2 := Lib.hid h2; clear h2
          go_wp2
          go_roundw
          case rel =>
            refine ⟨k + 1, by omega, by go_num, ?_, (hb.trans (hb1.mono hb.size)).trans h3⟩
            rw [lettersTo, getD_byte s k hlt, Bool.true_and, show (k == 0) = ((k : Int) == 0) from by rw [Bool.eq_iff_iff]; simp]
            exact H2.out
          case measure => simp [intOf]; omega
      · have he := Lib.hid (letters_end (first := true) hk hlt)
        have HC := Lib.hid HO.out.conv
        go_wp2_with fail
        simp only [HC.out, Result.andThen]
        go_wp2
        go_ret
        exact ⟨by rw [he.out]; unfold wordL; rw [if_neg (by rw [HK.out]; simp)]; rfl, hb⟩
  · have HW := Lib.hid (word_kw hk)
    have hc := kwd_some hk
    clear hk
    rcases hc with e1 | ⟨e1, e2⟩ | ⟨e1, e2, e3⟩ | ⟨e1, e2, e3, e4⟩
    all_goals
      go_enter Tryd.func11, Tryd.ntmps11
      go_wp2
      go_ret
      exact ⟨by rw [← HW.out]; rfl, Below.refl _ _⟩
end Go.Proofs.YtlgcofinmpckkaaDoor
