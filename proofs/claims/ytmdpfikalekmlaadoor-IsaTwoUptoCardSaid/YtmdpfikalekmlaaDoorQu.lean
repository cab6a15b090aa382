/- Layer 20: quoted. -/
import Derived.Test.YtmdpfikalekmlaaDoorLi
import Derived.Test.YtmdpfikalekmlaaDoorOwn
import Derived.Test.YtmdpfikalekmlaaDoorOr
namespace Go.Proofs.YtmdpfikalekmlaaDoor
open Go.RowKit
set_option maxRecDepth 100000
set_option maxHeartbeats 4000000
set_option linter.unusedSimpArgs false
set_option linter.unusedVariables false

theorem OwnB.lit3 (w : World) {B : Nat} (hB : B ≤ w.heap.size) (a b c : UInt8) : OwnB (w.alloc (.cells #[.int .u8 a.toNat, .int .u8 b.toNat, .int .u8 c.toNat] 5)) B (.slice (some ⟨w.heap.size, 0, none⟩) 3 3) [a, b, c] :=
  World.ownsRow_lit w #[.int .u8 a.toNat, .int .u8 b.toNat, .int .u8 c.toNat] 3 hB (by unfold maxLen; omega) rfl
theorem and15 (x : UInt8) : bits .and .u8 (x.toNat : Int) 15 = ((x.toNat % 16 : Nat) : Int) := by
  have h := u8_and_nat x.toNat 15 x.toNat_lt (by decide)
  rw [show ((15 : Nat) : Int) = 15 from rfl] at h
  rw [h, show (15 : Nat) = 2 ^ 4 - 1 from rfl, Nat.and_two_pow_sub_one_eq_mod]
theorem all_bytesQ {p : UInt8 → Bool} (h : (List.range 256).all (fun n => p (UInt8.ofNat n)) = true) (c : UInt8) : p c = true := by
  have := List.all_eq_true.1 h c.toNat (by rw [List.mem_range]; exact c.toNat_lt)
  rwa [UInt8.ofNat_toNat] at this
def hexS : ByteArray := ⟨#[48, 49, 50, 51, 52, 53, 54, 55, 56, 57, 97, 98, 99, 100, 101, 102]⟩
theorem hex_at (n : Nat) (h : n < 16) (W : World) : (Instr.index 9 (.string ⟨#[48, 49, 50, 51, 52, 53, 54, 55, 56, 57, 97, 98, 99, 100, 101, 102]⟩) (.int .u8 (n : Int))).run Tryd.prog W = .ok (.int .u8 ((hexC n).toNat : Int)) W := by
  rw [run_index_string W 9 _ .u8 (n : Int) Tryd.underlying9, dif_pos ⟨by omega, by show (n : Int) < 16; omega⟩]
  have : ∀ m, m < 16 → (⟨#[48, 49, 50, 51, 52, 53, 54, 55, 56, 57, 97, 98, 99, 100, 101, 102]⟩ : ByteArray)[m]! = hexC m := by decide
  have h2 := this n h
  rw [getElem!_pos _ n (by show n < 16; exact h)] at h2
  rw [← h2]
  rfl
def QuRel (s : ByteArray) (w : World) (ov iv : Value) (wr : World) : Prop := ∃ k : Nat, k ≤ s.size ∧ iv = .int .i64 (k : Int) ∧ OwnB wr w.heap.size ov (34 :: (s.data.toList.take k).flatMap quoC) ∧ Below w.heap.size w wr
theorem take_quo {s : ByteArray} {k : Nat} (hk : k < s.size) : (s.data.toList.take (k + 1)).flatMap quoC = (s.data.toList.take k).flatMap quoC ++ quoC s[k] := by
  have hk2 : k < s.data.toList.length := by rw [← ba_size]; exact hk
  rw [List.take_succ_eq_append_getElem hk2, List.flatMap_append]
  simp
  rfl
theorem quo_bd (s : ByteArray) (k : Nat) : ((s.data.toList.take k).flatMap quoC).length ≤ 3 * s.size := by
  have := quoF_len (s.data.toList.take k)
  rw [List.length_take, ← ba_size] at this
  omega
theorem quoted_any (s : ByteArray) (w : World) (hs : s.size ≤ 10000000) :
    Calls Tryd.prog 40 #[.string s] w fun e w' => e = .returned (.string (str (quoL s.data.toList))) ∧ Below w.heap.size w w' := by
  go_enter Tryd.func40, Tryd.ntmps40
  go_wp2
  go_loopw [3, 4] (fun ov iv wr => QuRel s w ov iv wr) (fun _ iv _ => s.size - (intOf iv).toNat)
  case atStart => exact ⟨0, Nat.zero_le _, rfl, OwnB.lit1 w (Nat.le_refl _) 34, (Below.refl _ _).alloc (Nat.le_refl _) _⟩
  case round =>
    obtain ⟨k, hk, rfl, ho, hb⟩ := hrel
    have HO := Lib.hid ho; have HB := Lib.hid hb
    have hbd := quo_bd s k
    have hBr : w.heap.size ≤ wr.heap.size := hb.size
    clear ho hb
    by_cases hlt : k < s.size
    · have hbx := u8_lt s[k]
      have HT := Lib.hid (take_quo hlt)
      by_cases hp : plainC s[k] = true
      · have HQ := Lib.hid (show quoC s[k] = [s[k]] from by unfold quoC; rw [if_pos hp])
        go_wp2_with fail
        refine (plain_any s[k] _).mono ?_
        rintro e wc ⟨rfl, rfl⟩
        rw [hp]
        clear hp
        go_wp2_with (at_builtin; refine OwnB.append HO.out s[k].toNat (by omega) (by omega) rfl _ _ rfl rfl rfl hBr ?_ ?_)
        · simp at hbd ⊢; omega
        · intro v' w' h2 h3
          have H2 := Lib.hid h2; have HB3 := Lib.hid (HB.out.trans h3)
          clear h2 h3
          go_wp2
          go_roundw
          case rel =>
            refine ⟨k + 1, by omega, by go_num, ?_, HB3.out⟩
            have h := H2.out
            rw [HT.out, HQ.out]
            simpa using h
          case measure => simp [intOf]; omega
      · have hpf : plainC s[k] = false := by simpa using hp
        have HQ := Lib.hid (show quoC s[k] = [92, hexC (s[k].toNat / 16), hexC (s[k].toNat % 16)] from by unfold quoC; rw [if_neg hp])
        go_wp2_with fail
        refine (plain_any s[k] _).mono ?_
        rintro e wc ⟨rfl, rfl⟩
        rw [hpf]
        have hH : ((s[k].toNat : Int) / 16) = ((s[k].toNat / 16 : Nat) : Int) := by omega
        have hL := and15 s[k]
        have hb16 : s[k].toNat / 16 < 16 := by have := s[k].toNat_lt; omega
        have hl16 : s[k].toNat % 16 < 16 := by omega
        have hlen := HQ.out
        generalize s[k].toNat / 16 = H at *
        generalize s[k].toNat % 16 = L at *
        have q1 := fun W => hex_at H hb16 W
        have q2 := fun W => hex_at L hl16 W
        have HLEN := Lib.hid hlen
        clear hp hpf hlen
        have HX := Lib.hid (OwnB.lit3 wr hBr 92 (hexC H) (hexC L)).drew
        have HO3 := Lib.hid (HO.out.alloc (.cells #[.int .u8 (92 : UInt8).toNat, .int .u8 (hexC H).toNat, .int .u8 (hexC L).toNat] 5)).drew
        go_wp2_with fail
        have hz3 : w.heap.size ≤ (wr.alloc (.cells #[.int .u8 (92 : UInt8).toNat, .int .u8 (hexC H).toNat, .int .u8 (hexC L).toNat] 5)).drew.heap.size := by
          show _ ≤ (wr.alloc _).heap.size
          rw [World.size_alloc]; omega
        have HZ3 := Lib.hid hz3
        have HBA := Lib.hid ((HB.out.alloc hBr (.cells #[.int .u8 (92 : UInt8).toNat, .int .u8 (hexC H).toNat, .int .u8 (hexC L).toNat] 5)).drew)
        have HL3 := Lib.hid (show (34 :: (s.data.toList.take k).flatMap quoC).length + [92, hexC H, hexC L].length ≤ 140737488355328 by simp at hbd ⊢; omega)
        clear hz3
        go_region_law (refine OwnB.stepAppend HO3.out HX.out (Nat.zero_lt_succ _) rfl _ _ rfl rfl rfl HZ3.out HL3.out (fun v' w' h2 h3 => ?_))
        all_goals
          have H2 := Lib.hid h2; have HB3 := Lib.hid (HBA.out.trans h3)
          clear h2 h3
          go_wp2
          go_roundw
          case rel =>
            refine ⟨k + 1, by omega, by go_num, ?_, HB3.out⟩
            have h := H2.out
            rw [HT.out, HQ.out]
            simpa using h
          case measure => simp [intOf]; omega
    · have HT := Lib.hid (show s.data.toList.take k = s.data.toList from List.take_of_length_le (by rw [← ba_size]; omega))
      go_wp2_with (at_builtin; refine OwnB.append HO.out 34 (by omega) (by omega) rfl _ _ rfl rfl rfl hBr ?_ ?_)
      · simp at hbd ⊢; omega
      · intro v' w' h2 h3
        have HC := Lib.hid h2.conv; have HB3 := Lib.hid (HB.out.trans h3)
        clear h2 h3
        have hc := HC.out
        go_wp2
        go_ret
        refine ⟨?_, HB3.out⟩
        rw [HT.out]
        rfl
end Go.Proofs.YtmdpfikalekmlaaDoor
