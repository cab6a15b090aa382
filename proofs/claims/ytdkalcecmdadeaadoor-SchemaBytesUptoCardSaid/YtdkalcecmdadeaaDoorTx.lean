/- Layer 4: a schema's text: plainly, and the walks of the code's and the reference's Text. -/
import Derived.Test.YtdkalcecmdadeaaDoorRck
import Derived.Test.YtdkalcecmdadeaaDoorTxp
import Derived.Test.YtdkalcecmdadeaaDoorBlk
namespace Go.Proofs.YtdkalcecmdadeaaDoor
open Go.RowKit
set_option maxRecDepth 100000
set_option maxHeartbeats 4000000
set_option linter.unusedSimpArgs false
set_option linter.unusedVariables false

/-- What Text hands back; the error is v or nil. -/
def TextRet (l : List Fd) (bad ok : Value) (w : World) (e : Ending) (w' : World) : Prop :=
  e = .returned (if chkL l then .tuple #[.string (str (textL l)), ok] else .tuple #[.string ⟨#[]⟩, bad]) ∧ Below w.heap.size w w'
theorem textRet_bad {l : List Fd} {bad ok : Value} {w w' : World} (h : chkL l = false) (hb : Below w.heap.size w w') : TextRet l bad ok w (.returned (.tuple #[.string ⟨#[]⟩, bad])) w' := by
  unfold TextRet; rw [h]; exact ⟨rfl, hb⟩
theorem textRet_ok {l : List Fd} {bad ok : Value} {w w' : World} {s : ByteArray} (h : chkL l = true) (hs : s.data.toList = textL l) (hb : Below w.heap.size w w') : TextRet l bad ok w (.returned (.tuple #[.string s, ok])) w' := by
  unfold TextRet; rw [h]
  have : str (textL l) = s := by rw [← hs]; exact str_self s
  rw [← this]; exact ⟨rfl, hb⟩
def TxRel (l : List Fd) (w : World) (tv iv : Value) (wr : World) : Prop :=
  ∃ (k : Nat) (s : ByteArray), k ≤ l.length ∧ iv = .int .i64 (k : Int) ∧ tv = .string s ∧ s.data.toList = textTo l k ∧ Below w.heap.size w wr
theorem rkind_any (k : Int) (w : World) : Calls Tryd.prog 30 #[.int .i64 k] w fun e w' => e = .returned (.string (str (kWord k))) ∧ w = w' := by
  by_cases h1 : k = 1
  · subst h1
    go_enter Tryd.func30, Tryd.ntmps30
    go_wp2
    go_ret
    exact ⟨rfl, rfl⟩
  · have e1 : (k == 1) = false := beq_eq_false_iff_ne.2 h1
    by_cases h2 : k = 2
    · subst h2
      go_enter Tryd.func30, Tryd.ntmps30
      go_wp2
      go_ret
      exact ⟨rfl, rfl⟩
    · have e2 : (k == 2) = false := beq_eq_false_iff_ne.2 h2
      have HN := Lib.hid (show kWord k = [110, 117, 109, 98, 101, 114] from by unfold kWord; rw [if_neg h1, if_neg h2])
      clear h1 h2
      go_enter Tryd.func30, Tryd.ntmps30
      go_wp2
      go_ret
      exact ⟨by rw [HN.out]; rfl, rfl⟩

theorem text_any (fs : Value) (l : List Fd) (ea : List Addr) (w : World) (B : Nat) (hB : B ≤ w.heap.size) (h : RdL fdS w B fs l) (hn : SmallNames l) (hE : SchEnv w ea) :
    Calls Tryd.prog 15 #[.agg #[fs]] w (TextRet l (errI ea 10) (.nilIface) w) := by
  obtain ⟨A, cap, rfl, hc, hc2⟩ := h.open_
  unfold maxLen at hc2
  have H := Lib.hid h; have HN := Lib.hid hn; have HE := Lib.hid hE
  clear h hn hE
  go_enter Tryd.func15, Tryd.ntmps15
  go_wp2_with fail
  refine (check_any _ l ea _ B (by rw [World.size_alloc]; omega) (H.out.alloc hB _) HN.out (HE.out.below ((Below.refl _ _).alloc (Nat.le_refl _) _))).mono ?_
  rintro e w1 ⟨he, hb1⟩
  have cb : w1.cell? ⟨w.heap.size, 0, none⟩ = some (.slice A l.length cap) := cellN hb1 rfl
  have hsz1 : w.heap.size < w1.heap.size := World.block_lt_of_cell? w1 ⟨w.heap.size, 0, none⟩ cb
  have HW1 := Lib.hid (((Below.refl _ _).alloc (Nat.le_refl _) _ : Below w.heap.size w (w.alloc (.cells #[.slice A l.length cap] 24))).trans (hb1.mono (by rw [World.size_alloc]; omega)))
  clear hb1
  have k1 := fun W => errI_nnil ea 10 W
  have k2 := fun op x y W => errI_guard0 ea 10 op x y W
  cases hck : chkL l with
  | false =>
    rw [hck] at he
    simp only [Bool.false_eq_true, if_false] at he
    subst he
    have HCK := Lib.hid hck
    clear hck
    go_wp2
    go_ret2
    exact textRet_bad HCK.out HW1.out
  | true =>
    rw [hck] at he
    simp only [if_true] at he
    subst he
    obtain ⟨hl1, hl16⟩ := chk_len hck
    have HCK := Lib.hid hck
    clear hck
    go_wp2
    go_loopw [5, 16] (fun tv iv wr => TxRel l w tv iv wr) (fun _ iv _ => l.length - (intOf iv).toNat)
    case atStart => exact ⟨0, ⟨#[]⟩, by omega, rfl, rfl, rfl, HW1.out⟩
    case round =>
      obtain ⟨k, s, hk, rfl, rfl, hs, hbl⟩ := hrel
      have HS := Lib.hid hs
      have hsl : s.size ≤ 1000 := by
        have := textTo_length HCK.out k hk
        rw [← hs, ← ba_size] at this
        omega
      have HB := Lib.hid hbl
      have HF := Lib.hid (H.out.belowW hB hbl)
      have hszr : w.heap.size ≤ wr.heap.size := hbl.size
      clear hs hbl
      by_cases hlt : k < l.length
      · obtain ⟨a, rfl, hab, c0, c1, c2, c3, c4⟩ := at_fd HF.out hlt
        have hza : (a.add (k * 5)).block < wr.heap.size := by omega
        obtain ⟨hn32, -, hkd⟩ := chk_name32 HCK.out hlt
        have hk3 := kind_three hkd
        have HTX := Lib.hid (textTo_succ hlt)
        clear hkd
        generalize l[k] = f at *
        obtain ⟨nm, kd, fa, fb, fc⟩ := f
        simp only [] at c0 c1 c2 c3 c4 hn32 hk3
        have HZ : Hid (k = 0 ∨ k ≠ 0) := Lib.hid (Nat.eq_zero_or_pos k |>.imp id (fun h => by omega))
        rcases hk3 with rfl | rfl | rfl <;> cases fa <;> cases fb <;> cases fc <;> rcases HZ.out with hz | hz
        all_goals
          have HZ1 := Lib.hid hz
          first | (have hz0 : ¬ (0 < k) := by omega) | (have hz0 : 0 < k := by omega)
          clear hz
          go_wp2
          go_roundw
          case rel => exact ⟨k + 1, _, by omega, by go_num, rfl, by
            rw [HTX.out]
            simp [ba_append, HS.out, HZ1.out, pieceL, kWord, flagsL], HB.out.alloc hszr _⟩
          case measure => simp [intOf]; omega
      · have HEQ := Lib.hid (show textTo l k = textL l from by unfold textL; congr 1; omega)
        go_wp2
        go_ret2
        exact textRet_ok HCK.out (by rw [HS.out, HEQ.out]) HB.out

theorem rtext_any (fs : Value) (l : List Fd) (ea : List Addr) (w : World) (B : Nat) (hB : B ≤ w.heap.size) (h : RdL fdS w B fs l) (hn : SmallNames l) (hE : SchEnv w ea) :
    Calls Tryd.prog 16 #[.agg #[fs]] w (TextRet l (.int .i64 11) (.int .i64 0) w) := by
  obtain ⟨A, cap, rfl, hc, hc2⟩ := h.open_
  unfold maxLen at hc2
  have H := Lib.hid h; have HN := Lib.hid hn; have HE := Lib.hid hE
  clear h hn hE
  go_enter Tryd.func16, Tryd.ntmps16
  go_wp2_with fail
  refine (rcheck_any _ l _ B (by rw [World.size_alloc]; omega) (H.out.alloc hB _)).mono ?_
  rintro e w1 ⟨he, hb1⟩
  have cb : w1.cell? ⟨w.heap.size, 0, none⟩ = some (.slice A l.length cap) := cellN hb1 rfl
  have hsz1 : w.heap.size < w1.heap.size := World.block_lt_of_cell? w1 ⟨w.heap.size, 0, none⟩ cb
  have HW1 := Lib.hid (((Below.refl _ _).alloc (Nat.le_refl _) _ : Below w.heap.size w (w.alloc (.cells #[.slice A l.length cap] 24))).trans (hb1.mono (by rw [World.size_alloc]; omega)))
  clear hb1
  cases hck : chkL l with
  | false =>
    rw [hck] at he
    simp only [Bool.false_eq_true, if_false] at he
    subst he
    have HCK := Lib.hid hck
    clear hck
    go_wp2
    go_ret2
    exact textRet_bad HCK.out HW1.out
  | true =>
    rw [hck] at he
    simp only [if_true] at he
    subst he
    obtain ⟨hl1, hl16⟩ := chk_len hck
    have HCK := Lib.hid hck
    clear hck
    go_wp2
    go_loopw [5, 16] (fun tv iv wr => TxRel l w tv iv wr) (fun _ iv _ => l.length - (intOf iv).toNat)
    case atStart => exact ⟨0, ⟨#[]⟩, by omega, rfl, rfl, rfl, HW1.out⟩
    case round =>
      obtain ⟨k, s, hk, rfl, rfl, hs, hbl⟩ := hrel
      have HS := Lib.hid hs
      have hsl : s.size ≤ 1000 := by
        have := textTo_length HCK.out k hk
        rw [← hs, ← ba_size] at this
        omega
      have HB := Lib.hid hbl
      have HF := Lib.hid (H.out.belowW hB hbl)
      have hszr : w.heap.size ≤ wr.heap.size := hbl.size
      clear hs hbl
      by_cases hlt : k < l.length
      · obtain ⟨a, rfl, hab, c0, c1, c2, c3, c4⟩ := at_fd HF.out hlt
        have hza : (a.add (k * 5)).block < wr.heap.size := by omega
        obtain ⟨hn32, -, hkd⟩ := chk_name32 HCK.out hlt
        have hk3 := kind_three hkd
        have HTX := Lib.hid (textTo_succ hlt)
        clear hkd
        generalize l[k] = f at *
        obtain ⟨nm, kd, fa, fb, fc⟩ := f
        simp only [] at c0 c1 c2 c3 c4 hn32 hk3
        have HZ : Hid (k = 0 ∨ k ≠ 0) := Lib.hid (Nat.eq_zero_or_pos k |>.imp id (fun h => by omega))
        rcases hk3 with rfl | rfl | rfl <;> cases fa <;> cases fb <;> cases fc <;> rcases HZ.out with hz | hz
        all_goals
          have HZ1 := Lib.hid hz
          first | (have hz0 : ¬ (0 < k) := by omega) | (have hz0 : 0 < k := by omega)
          clear hz
          have HKN : Hid (∀ (n : Int) W, Calls Tryd.prog 30 #[.int .i64 n] W fun e W' => e = .returned (.string (str (kWord n))) ∧ W' = W) := Lib.hid (fun n W => (rkind_any n W).mono fun e W' ⟨h1, h2⟩ => ⟨h1, h2.symm⟩)
          have q1 := fun W => str_add (P := Tryd.prog) nm ⟨#[58]⟩ (by rw [show (⟨#[58]⟩ : ByteArray).size = 1 from rfl]; omega) W
          have q2 := fun n W => str_add (P := Tryd.prog) (nm ++ ⟨#[58]⟩) (str (kWord n)) (by have := kWord_length n; rw [ba_append_size, str_size, show (⟨#[58]⟩ : ByteArray).size = 1 from rfl]; omega) W
          have q3 := fun n W => str_add (P := Tryd.prog) s (nm ++ ⟨#[58]⟩ ++ str (kWord n)) (by have := kWord_length n; rw [ba_append_size, ba_append_size, str_size, show (⟨#[58]⟩ : ByteArray).size = 1 from rfl]; omega) W
          have q4 := fun n W => str_add (P := Tryd.prog) (s ++ ⟨#[59]⟩) (nm ++ ⟨#[58]⟩ ++ str (kWord n)) (by have := kWord_length n; rw [ba_append_size, ba_append_size, ba_append_size, str_size, show (⟨#[58]⟩ : ByteArray).size = 1 from rfl, show (⟨#[59]⟩ : ByteArray).size = 1 from rfl]; omega) W
          have g1 := fun n => str_size (kWord n)
          have g2a := kWord_length 1
          have g2b := kWord_length 2
          have g2c := kWord_length 3
          go_wp2_with fail
          go_quiet ((go_at_call 30; exact Calls.quiet_of_same (HKN.out _ _)))
          clear q1 q2 q3 q4
          go_wp2
          go_roundw
          case rel => exact ⟨k + 1, _, by omega, by go_num, rfl, by
            rw [HTX.out]
            simp [ba_append, HS.out, HZ1.out, pieceL, str_data, flagsL], below_drewN (HB.out.alloc hszr _) _⟩
          case measure => simp [intOf]; omega
      · have HEQ := Lib.hid (show textTo l k = textL l from by unfold textL; congr 1; omega)
        go_wp2
        go_ret2
        exact textRet_ok HCK.out (by rw [HS.out, HEQ.out]) HB.out

end Go.Proofs.YtdkalcecmdadeaaDoor