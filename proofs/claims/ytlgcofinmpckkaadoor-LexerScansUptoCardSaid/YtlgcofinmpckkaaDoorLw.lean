/- The walks of the lexer's class, keyword, letters, Word and Quote. -/
import Derived.Test.YtlgcofinmpckkaaDoorLp
import Derived.Test.YtlgcofinmpckkaaDoorOwn
namespace Go.Proofs.YtlgcofinmpckkaaDoor
open Go.RowKit
set_option maxRecDepth 100000
set_option maxHeartbeats 1000000

/-- The table of classes lies as the program's text lays it. -/
def ClsEnv (w : World) : Prop := (∀ j, j < 128 → w.cell? ⟨16, j, none⟩ = some (.int .u8 (clsTab.getD j 0))) ∧ 16 < w.heap.size
theorem ClsEnv.below {w w' : World} (h : ClsEnv w) (hb : Below w.heap.size w w') : ClsEnv w' :=
  ⟨fun j hj => (hb.cell (p := ⟨16, j, none⟩) h.2).trans (h.1 j hj), Nat.lt_of_lt_of_le h.2 hb.size⟩

theorem ClsEnv.belowB {w w' : World} {B : Nat} (h : ClsEnv w) (hB : 16 < B) (hb : Below B w w') : ClsEnv w' :=
  ⟨fun j hj => (hb.cell (p := ⟨16, j, none⟩) hB).trans (h.1 j hj), Nat.lt_of_lt_of_le h.2 hb.size⟩
theorem class_low (n : Nat) (v : Int) (w : World) (h : n < 128) (hc : w.cell? ⟨16, n, none⟩ = some (.int .u8 v)) :
    Calls Tryd.prog 26 #[.int .u8 (n : Int)] w fun e w' => e = .returned (.int .u8 v) ∧ w = w' := by
  go_enter Tryd.func26, Tryd.ntmps26
  go_wp2
  go_ret
  exact ⟨rfl, rfl⟩
theorem class_high (n : Nat) (w : World) (h : 128 ≤ n) :
    Calls Tryd.prog 26 #[.int .u8 (n : Int)] w fun e w' => e = .returned (.int .u8 0) ∧ w = w' := by
  go_enter Tryd.func26, Tryd.ntmps26
  go_wp2
  go_ret
  exact ⟨rfl, rfl⟩
theorem class_any (b : UInt8) (w : World) (hE : ClsEnv w) :
    Calls Tryd.prog 26 #[.int .u8 (b.toNat : Int)] w fun e w' => e = .returned (.int .u8 (cls b)) ∧ w = w' := by
  unfold cls
  by_cases h : b.toNat < 128
  · rw [if_pos h]
    exact class_low b.toNat _ w h (hE.1 b.toNat h)
  · rw [if_neg h]
    exact class_high b.toNat w (by omega)

theorem keyword_any (s : ByteArray) (w : World) :
    Calls Tryd.prog 23 #[.string s] w fun e w' => e = .returned (.int .i64 (kwd s.data.toList)) ∧ w = w' := by
  obtain ⟨e1, e2, e3, e4⟩ := kwd_toList s
  unfold kwd
  by_cases h1 : s.data.toList = [65, 78, 68]
  · rw [if_pos h1]
    rw [decide_eq_true h1] at e1
    clear e2 e3 e4 h1
    go_enter Tryd.func23, Tryd.ntmps23
    go_wp2
    go_ret
    exact ⟨rfl, rfl⟩
  · rw [if_neg h1]
    rw [decide_eq_false h1] at e1
    clear h1
    by_cases h2 : s.data.toList = [79, 82]
    · rw [if_pos h2]
      rw [decide_eq_true h2] at e2
      clear e3 e4 h2
      go_enter Tryd.func23, Tryd.ntmps23
      go_wp2
      go_ret
      exact ⟨rfl, rfl⟩
    · rw [if_neg h2]
      rw [decide_eq_false h2] at e2
      clear h2
      by_cases h3 : s.data.toList = [78, 79, 84]
      · rw [if_pos h3]
        rw [decide_eq_true h3] at e3
        clear e4 h3
        go_enter Tryd.func23, Tryd.ntmps23
        go_wp2
        go_ret
        exact ⟨rfl, rfl⟩
      · rw [if_neg h3]
        rw [decide_eq_false h3] at e3
        clear h3
        by_cases h4 : s.data.toList = [84, 79]
        · rw [if_pos h4]
          rw [decide_eq_true h4] at e4
          clear h4
          go_enter Tryd.func23, Tryd.ntmps23
          go_wp2
          go_ret
          exact ⟨rfl, rfl⟩
        · rw [if_neg h4]
          rw [decide_eq_false h4] at e4
          clear h4
          go_enter Tryd.func23, Tryd.ntmps23
          go_wp2
          go_ret
          exact ⟨rfl, rfl⟩

/-- A slice of bytes comes back that owns l. -/
def RetB (w : World) (B : Nat) (l : List UInt8) (e : Ending) (w' : World) : Prop := ∃ v, e = .returned v ∧ OwnB w' B v l ∧ Below B w w'
def LRel (s : ByteArray) (first : Bool) (w : World) (B : Nat) (l0 : List UInt8) (v i : Value) (wr : World) : Prop :=
  ∃ k : Nat, k ≤ s.size ∧ i = .int .i64 k ∧ OwnB wr B v (l0 ++ lettersTo first s.data.toList k) ∧ Below B w wr ∧ ClsEnv wr
theorem esc_yes {f : Bool} {c : UInt8} (h : cls c ≠ 0 ∨ (f = true ∧ (c = 43 ∨ c = 45))) : esc f c = [92, c] := by unfold esc; rw [if_pos h]
theorem esc_no {f : Bool} {c : UInt8} (h : ¬ (cls c ≠ 0 ∨ (f = true ∧ (c = 43 ∨ c = 45)))) : esc f c = [c] := by unfold esc; rw [if_neg h]
theorem byte_eq {c d : UInt8} (h : (c.toNat : Int) = d.toNat) : c = d := UInt8.toNat_inj.1 (by omega)
theorem ofNat_byte (c : UInt8) : UInt8.ofNat ((c.toNat : Int)).toNat = c := by rw [Int.toNat_natCast, UInt8.ofNat_toNat]

/-- must the letter be escaped? -/
def needB (first : Bool) (k : Nat) (c : UInt8) : Bool := decide (cls c ≠ 0 ∨ ((first && k == 0) = true ∧ (c = 43 ∨ c = 45)))
theorem need_cases (first : Bool) (k : Nat) (c : UInt8) :
    ((cls c != 0) = true ∧ needB first k c = true) ∨ ((cls c != 0) = false ∧ first = false ∧ needB first k c = false)
    ∨ ((cls c != 0) = false ∧ first = true ∧ ((k : Int) == 0) = false ∧ needB first k c = false)
    ∨ ((cls c != 0) = false ∧ first = true ∧ ((k : Int) == 0) = true ∧ ((c.toNat : Int) == 43) = true ∧ needB first k c = true)
    ∨ ((cls c != 0) = false ∧ first = true ∧ ((k : Int) == 0) = true ∧ ((c.toNat : Int) == 43) = false ∧ ((c.toNat : Int) == 45) = true ∧ needB first k c = true)
    ∨ ((cls c != 0) = false ∧ first = true ∧ ((k : Int) == 0) = true ∧ ((c.toNat : Int) == 43) = false ∧ ((c.toNat : Int) == 45) = false ∧ needB first k c = false) := by
  have h43 : ((c.toNat : Int) = 43) ↔ c = 43 := ⟨fun h => byte_eq (d := 43) h, fun h => by rw [h]; rfl⟩
  have h45 : ((c.toNat : Int) = 45) ↔ c = 45 := ⟨fun h => byte_eq (d := 45) h, fun h => by rw [h]; rfl⟩
  have e1 : (cls c != 0) = decide (cls c ≠ 0) := by rw [Bool.eq_iff_iff]; simp
  have e2 : ((k : Int) == 0) = decide (k = 0) := by rw [Bool.eq_iff_iff]; simp
  have e3 : ((c.toNat : Int) == 43) = decide (c = 43) := by rw [Bool.eq_iff_iff, beq_iff_eq, h43]; simp
  have e4 : ((c.toNat : Int) == 45) = decide (c = 45) := by rw [Bool.eq_iff_iff, beq_iff_eq, h45]; simp
  rw [e1, e2, e3, e4]
  unfold needB
  have e5 : (k == 0) = decide (k = 0) := rfl
  rw [e5]
  generalize cls c = x
  by_cases h1 : x = 0 <;> cases first <;> by_cases h2 : k = 0 <;> by_cases h3 : c = 43 <;> by_cases h4 : c = 45 <;> simp_all
theorem letters_step {s : ByteArray} {first : Bool} {k : Nat} {b : Bool} (h : k < s.size) (hn : needB first k s[k] = b) :
    lettersTo first s.data.toList (k + 1) = lettersTo first s.data.toList k ++ (if b then [92, s[k]] else [s[k]]) := by
  rw [lettersTo, getD_byte s k h]
  congr 1
  unfold needB at hn
  cases b
  · exact esc_no (of_decide_eq_false hn)
  · exact esc_yes (of_decide_eq_true hn)
theorem letters_end {s : ByteArray} {first : Bool} {k : Nat} (hk : k ≤ s.size) (hge : ¬ k < s.size) : lettersTo first s.data.toList k = lettersL first s.data.toList := by
  unfold lettersL; rw [← ba_size]; congr 1; omega

theorem letters_any (s : ByteArray) (first : Bool) (v0 : Value) (B : Nat) (l0 : List UInt8) (w : World) (hE : ClsEnv w) (hown : OwnB w B v0 l0) (hB : B ≤ w.heap.size) (hEB : 16 < B) (hs : s.size + l0.length ≤ 100000000) :
    Calls Tryd.prog 24 #[v0, .string s, .bool first] w (RetB w B (l0 ++ lettersL first s.data.toList)) := by
  have HS := Lib.hid hs
  have hs1 : s.size ≤ 100000000 := by omega
  clear hs
  go_enter Tryd.func24, Tryd.ntmps24
  go_wp2
  go_loopw [0, 7] (fun v i wr => LRel s first w B l0 v i wr) (fun _ i _ => s.size - (intOf i).toNat)
  case atStart => exact ⟨0, by omega, rfl, by simpa [lettersTo] using hown, Below.refl _ _, hE⟩
  case round =>
    obtain ⟨k, hk, rfl, ho, hb, hEr⟩ := hrel
    have HE := Lib.hid hEr; clear hEr
    have HO := Lib.hid ho; clear ho
    by_cases hlt : k < s.size
    · go_upto_region 4 with (fail)
      go_cut [37] (fun s37 wx => s37 = .bool (needB first k s[k]) ∧ wr = wx)
      case first =>
        rcases need_cases first k s[k] with ⟨g1, g2⟩ | ⟨g1, rfl, g2⟩ | ⟨g1, rfl, g3, g2⟩ | ⟨g1, rfl, g3, g4, g2⟩ | ⟨g1, rfl, g3, g4, g5, g2⟩ | ⟨g1, rfl, g3, g4, g5, g2⟩
        all_goals
          have G2 := Lib.hid g2; clear g2
          go_wp2_with fail
          refine (class_any s[k] _ HE.out).mono ?_
          rintro e w1 ⟨rfl, rfl⟩
          go_wp2
          go_meet
          exact ⟨by rw [G2.out], rfl⟩
      case rest =>
        obtain ⟨rfl, rfl⟩ := hcut
        generalize hn : needB first k s[k] = nb
        have HN := Lib.hid hn; clear hn
        have hBr := Nat.le_trans hB hb.size
        have hl := Lib.hid (lettersTo_length first s.data.toList k)
        have hb0 := u8_lt s[k]
        cases nb
        · go_wp2_with (at_builtin; refine OwnB.append HO.out _ ?_ ?_ rfl _ _ rfl rfl rfl hBr ?_ ?_)
          · omega
          · omega
          · have := hl.out; have := HS.out; rw [List.length_append]; omega
          · intro v' w' h2 h3
            go_wp2
            go_roundw
            case rel =>
              refine ⟨k + 1, by omega, by go_num, ?_, hb.trans h3, (HE.out).belowB hEB h3⟩
              rw [letters_step hlt HN.out]
              simpa [ofNat_byte] using h2
            case measure => simp [intOf]; omega
        · go_wp2_with (at_builtin; refine OwnB.append HO.out _ ?_ ?_ rfl _ _ rfl rfl rfl hBr ?_ ?_)
          · omega
          · omega
          · have := hl.out; have := HS.out; rw [List.length_append]; omega
          · intro v' w' h2 h3
            have H2 := Lib.hid h2; clear h2
            have hBr2 := Nat.le_trans hBr h3.size
            go_wp2_with (at_builtin; refine OwnB.append H2.out _ ?_ ?_ rfl _ _ rfl rfl rfl hBr2 ?_ ?_)
            · omega
            · omega
            · have := hl.out; have := HS.out; simp only [List.length_append, List.length_singleton]; omega
            · intro v2 w2 h4 h5
              go_wp2
              go_roundw
              case rel =>
                refine ⟨k + 1, by omega, by go_num, ?_, (hb.trans h3).trans h5, (HE.out).belowB hEB (h3.trans h5)⟩
                rw [letters_step hlt HN.out]
                simpa [ofNat_byte] using h4
              case measure => simp [intOf]; omega
    · have he := Lib.hid (letters_end (first := first) hk hlt)
      go_wp2
      go_ret
      exact ⟨_, rfl, by rw [← he.out]; exact HO.out, hb⟩

theorem word_any (s : ByteArray) (w : World) (hE : ClsEnv w) (hs : s.size ≤ 10000000) :
    Calls Tryd.prog 9 #[.string s] w fun e w' => e = .returned (.string (str (wordL s.data.toList))) ∧ Below w.heap.size w w' := by
  have hs1 : s.size ≤ 10000000 := hs
  by_cases hk : kwd s.data.toList = 1
  · have hkb : (kwd s.data.toList != 1) = false := by rw [hk]; rfl
    have HK := Lib.hid hk; clear hk
    go_enter Tryd.func9, Tryd.ntmps9
    go_wp2_with fail
    refine (keyword_any s _).mono ?_
    rintro e w1 ⟨rfl, rfl⟩
    go_wp2_with fail
    refine (letters_any s true _ w.heap.size [] w hE (OwnB.nil _ _) (Nat.le_refl _) hE.2 (by simp; omega)).mono ?_
    rintro e w1 hR
    obtain ⟨v, rfl, ho, hb⟩ := hR
    have HC := Lib.hid ho.conv
    clear ho
    go_wp2_with fail
    simp only [HC.out, Result.andThen]
    go_wp2
    go_ret
    exact ⟨by unfold wordL; rw [if_neg (by rw [HK.out]; simp)]; rfl, hb⟩
  · have hkb : (kwd s.data.toList != 1) = true := by simp [hk]
    have HK := Lib.hid hk; clear hk
    go_enter Tryd.func9, Tryd.ntmps9
    go_wp2_with fail
    refine (keyword_any s _).mono ?_
    rintro e w1 ⟨rfl, rfl⟩
    go_wp2
    go_ret
    refine ⟨?_, Below.refl _ _⟩
    have e : (⟨#[92]⟩ : ByteArray) ++ s = str (wordL s.data.toList) := ba_ext (by rw [ba_append, str_data]; unfold wordL; rw [if_pos HK.out]; rfl)
    rw [← e]; rfl
end Go.Proofs.YtlgcofinmpckkaaDoor
