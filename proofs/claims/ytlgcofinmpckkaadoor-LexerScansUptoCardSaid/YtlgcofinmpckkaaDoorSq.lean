/- The walk of the lexer's quoted. -/
import Derived.Test.YtlgcofinmpckkaaDoorSn
import Derived.Test.YtlgcofinmpckkaaDoorLr
namespace Go.Proofs.YtlgcofinmpckkaaDoor
open Go.RowKit
set_option maxRecDepth 100000
set_option maxHeartbeats 1000000

/-- A token as a value. -/
def lxVal (x : Lx) : Value := .agg #[.int .i64 x.kind, .string (str x.text), .int .i64 x.n, .int .i64 x.at_, .int .i64 x.end_]
/-- A token and true comes back; where there is none, some token and false. -/
def RetLx (w : World) (r : Option Lx) (e : Ending) (w' : World) : Prop :=
  Below w.heap.size w w' ∧ match r with
    | some x => e = .returned (.tuple #[lxVal x, .bool true])
    | none => ∃ x, e = .returned (.tuple #[lxVal x, .bool false])
theorem quotedL_end (t : List UInt8) : quotedL (34 :: t) = some ([], 1) := by cases t <;> rfl
theorem quotedL_esc (d : UInt8) (t : List UInt8) : quotedL (92 :: d :: t) = (quotedL t).map (fun x => (d :: x.1, x.2 + 2)) := rfl
theorem quotedL_other {c : UInt8} (t : List UInt8) (h1 : c ≠ 34) (h2 : c ≠ 92) : quotedL (c :: t) = (quotedL t).map (fun x => (c :: x.1, x.2 + 1)) := by
  cases t with
  | nil => simp [quotedL, h1]
  | cons d t => rw [quotedL, if_neg h1, if_neg h2]
/-- so many bytes read, this text made -/
def qadd (T : List UInt8) (n : Nat) (x : List UInt8 × Nat) : List UInt8 × Nat := (T ++ x.1, n + x.2)
def QPos (s : ByteArray) (i k : Nat) (T : List UInt8) : Prop :=
  i + 1 ≤ k ∧ k ≤ s.size + 1 ∧ T.length ≤ k ∧ quotedL (s.data.toList.drop (i + 1)) = (quotedL (s.data.toList.drop k)).map (qadd T (k - (i + 1)))
theorem QPos_start (s : ByteArray) (i : Nat) (h : i < s.size) : QPos s i (i + 1) [] := by
  refine ⟨Nat.le_refl _, by omega, by simp, ?_⟩
  rw [Nat.sub_self]
  cases quotedL (s.data.toList.drop (i + 1)) with
  | none => rfl
  | some x => simp [qadd]
theorem QPos_esc {s : ByteArray} {i k : Nat} {T : List UInt8} (h : QPos s i k T) (h1 : k + 1 < s.size) (h92 : s[k] = 92) : QPos s i (k + 2) (T ++ [s[k + 1]]) := by
  obtain ⟨g1, g2, g3, g4⟩ := h
  refine ⟨by omega, by omega, by simp; omega, ?_⟩
  rw [g4, dropB s (by omega : k < s.size), dropB s h1, h92, quotedL_esc, Option.map_map]
  congr 1
  funext x
  simp [qadd]; omega
theorem QPos_esc_end {s : ByteArray} {i k : Nat} {T : List UInt8} (h : QPos s i k T) (hk : k < s.size) (h1 : ¬ k + 1 < s.size) (h92 : s[k] = 92) : QPos s i (k + 2) T := by
  obtain ⟨g1, g2, g3, g4⟩ := h
  refine ⟨by omega, by omega, by omega, ?_⟩
  rw [g4, dropB s hk, dropB_nil s (by omega : s.size ≤ k + 1), dropB_nil s (by omega : s.size ≤ k + 2), h92]; rfl
theorem QPos_other {s : ByteArray} {i k : Nat} {T : List UInt8} (h : QPos s i k T) (hk : k < s.size) (h34 : s[k] ≠ 34) (h92 : s[k] ≠ 92) : QPos s i (k + 1) (T ++ [s[k]]) := by
  obtain ⟨g1, g2, g3, g4⟩ := h
  refine ⟨by omega, by omega, by simp; omega, ?_⟩
  rw [g4, dropB s hk, quotedL_other _ h34 h92, Option.map_map]
  congr 1
  funext x
  simp [qadd]; omega
theorem QPos_yes {s : ByteArray} {i k : Nat} {T : List UInt8} (h : QPos s i k T) (hk : k < s.size) (h34 : s[k] = 34) : quotedL (s.data.toList.drop (i + 1)) = some (T, k - i) := by
  obtain ⟨g1, g2, g3, g4⟩ := h
  rw [g4, dropB s hk, h34, quotedL_end]
  simp [qadd]; omega
theorem QPos_no {s : ByteArray} {i k : Nat} {T : List UInt8} (h : QPos s i k T) (hk : ¬ k < s.size) : quotedL (s.data.toList.drop (i + 1)) = none := by
  obtain ⟨g1, g2, g3, g4⟩ := h
  rw [g4, dropB_nil s (by omega)]; rfl
def qTok (s : ByteArray) (i : Nat) : Option Lx := (quotedL (s.data.toList.drop (i + 1))).map fun x => ⟨3, x.1, 0, i, i + 1 + x.2⟩
/-- A block of five cells of the call's own. -/
def Blk5 (w : World) (g : Nat) (a b c d e : Value) : Prop := w.heap[g]? = some (.cells #[a, b, c, d, e] 35 (0, 0))
theorem Blk5.facts {w : World} {g : Nat} {a b c d e : Value} (h : Blk5 w g a b c d e) :
    (w.cell? ⟨g, 0, none⟩ = some a ∧ w.cell? ⟨g, 1, none⟩ = some b ∧ w.cell? ⟨g, 2, none⟩ = some c ∧ w.cell? ⟨g, 3, none⟩ = some d ∧ w.cell? ⟨g, 4, none⟩ = some e)
    ∧ w.frozen? ⟨g, 0, none⟩ = false ∧ w.frozen? ⟨g, 1, none⟩ = false ∧ w.frozen? ⟨g, 2, none⟩ = false ∧ w.frozen? ⟨g, 3, none⟩ = false ∧ w.frozen? ⟨g, 4, none⟩ = false := by
  unfold Blk5 at h
  simp [World.cell?, World.frozen?, h]
theorem Blk5.lt {w : World} {g : Nat} {a b c d e : Value} (h : Blk5 w g a b c d e) : g < w.heap.size := by
  rcases Nat.lt_or_ge g w.heap.size with hl | hl
  · exact hl
  · unfold Blk5 at h; rw [Array.getElem?_eq_none hl] at h; cases h
theorem Blk5.new (w : World) (a b c d e : Value) : Blk5 (w.alloc (.cells #[a, b, c, d, e] 35)) w.heap.size a b c d e := by
  show (w.heap.push _)[w.heap.size]? = _
  simp
theorem Blk5.below {w w' : World} {B g : Nat} {a b c d e : Value} (h : Blk5 w g a b c d e) (hb : Below B w w') (hg : g < B) : Blk5 w' g a b c d e := (hb.block g hg).trans h
def QuRel (s : ByteArray) (i : Nat) (w : World) (v iv : Value) (wr : World) : Prop :=
  ∃ k T, QPos s i k T ∧ iv = .int .i64 (k : Int) ∧ OwnB wr (w.heap.size + 1) v T ∧ Blk5 wr w.heap.size (.int .i64 0) (.string ⟨#[]⟩) (.int .i64 0) (.int .i64 0) (.int .i64 0) ∧ Below w.heap.size w wr

theorem quoted_any (s : ByteArray) (i : Nat) (w : World) (hs : s.size ≤ 10000000) (hi : i < s.size) :
    Calls Tryd.prog 36 #[.string s, .int .i64 (i : Int)] w (RetLx w (qTok s i)) := by
  have HI := Lib.hid hi
  go_enter Tryd.func36, Tryd.ntmps36
  go_wp2
  go_loopw [6, 7] (fun v iv wr => QuRel s i w v iv wr) (fun _ iv _ => s.size + 1 - (intOf iv).toNat)
  case atStart =>
    have hB := Blk5.new w (.int .i64 0) (.string ⟨#[]⟩) (.int .i64 0) (.int .i64 0) (.int .i64 0)
    refine ⟨i + 1, [], QPos_start s i HI.out, by go_num, ?_, hB.below ((Below.refl _ _).alloc (Nat.le_refl _) _) (by simp), ((Below.refl _ _).alloc (Nat.le_refl _) _).alloc (by simp) _⟩
    have := OwnB.lit0 (w.alloc (.cells #[.int .i64 0, .string ⟨#[]⟩, .int .i64 0, .int .i64 0, .int .i64 0] 35)) (B := w.heap.size + 1) (by simp)
    simpa using this
  case round =>
    obtain ⟨k, T, hp, rfl, ho, hblk, hb⟩ := hrel
    have hk := hp.2.1
    have hT := hp.2.2.1
    have HP := Lib.hid hp; clear hp
    have HO := Lib.hid ho; clear ho
    have HK := Lib.hid hblk
    have hBr : w.heap.size + 1 ≤ wr.heap.size := hblk.lt
    clear hblk
    by_cases hlt : k < s.size
    · have hbx := u8_lt s[k]
      have b34 := byte_beq s[k] 34
      have b92 := byte_beq s[k] 92
      rw [show ((34 : UInt8).toNat : Int) = 34 from rfl] at b34
      rw [show ((92 : UInt8).toNat : Int) = 92 from rfl] at b92
      by_cases h34 : s[k] = 34
      · have e34 : ((s[k].toNat : Int) != 34) = false := by rw [h34]; rfl
        have HY := Lib.hid (QPos_yes HP.out hlt h34)
        clear b34 b92 h34
        obtain ⟨⟨c0, c1, c2, c3, c4⟩, f0, f1, f2, f3, f4⟩ := HK.out.facts
        have HC := Lib.hid HO.out.conv
        go_wp2_with fail
        simp only [HC.out, Result.andThen]
        go_wp2
        refine bodyPost_ret (v := .tuple #[lxVal ⟨3, T, 0, i, k + 1⟩, .bool true]) ?_ rfl ?_
        · simp [results, Tryd.results36, go_sem, lxVal, c0, c1, c2, c3, c4]
        · refine ⟨((((hb.setCell (Nat.le_refl _) _).setCell (Nat.le_refl _) _).setCell (Nat.le_refl _) _).setCell (Nat.le_refl _) _).setCell (Nat.le_refl _) _, ?_⟩
          unfold qTok
          rw [HY.out]
          simp only [Option.map_some]
          rw [show i + 1 + (k - i) = k + 1 from by have := HP.out.1; omega]
      · have e34 : ((s[k].toNat : Int) != 34) = true := by rw [bne, b34]; simp [h34]
        have H34 := Lib.hid h34
        clear h34 b34
        by_cases h92 : s[k] = 92
        · have e92 : ((s[k].toNat : Int) == 92) = true := by rw [h92]; rfl
          have H92 := Lib.hid h92
          clear h92 b92
          by_cases hlt2 : k + 1 < s.size
          · have hbx2 := u8_lt s[k + 1]
            go_wp2_with (at_builtin; refine OwnB.appendAt HO.out _ _ rfl _ _ rfl rfl rfl ?_ ?_ ?_ hBr ?_ ?_)
            all_goals first | omega | exact (World.size_alloc ..).symm | skip
            intro v' w' h2 h3 h3k
            have H2 := Lib.hid h2; clear h2 h3k
            go_wp2
            go_roundw
            case rel =>
              refine ⟨k + 2, _, QPos_esc HP.out hlt2 H92.out, by go_num, ?_, HK.out.below h3 (by omega), hb.trans (h3.mono (by omega))⟩
              simpa [ofNat_byte] using H2.out
            case measure => simp [intOf]; omega
          · go_wp2
            go_roundw
            case rel => exact ⟨k + 2, T, QPos_esc_end HP.out hlt hlt2 H92.out, by go_num, HO.out, HK.out, hb⟩
            case measure => simp [intOf]; omega
        · have e92 : ((s[k].toNat : Int) == 92) = false := by rw [b92]; simp [h92]
          have H92 := Lib.hid h92
          clear h92 b92
          go_wp2_with (at_builtin; refine OwnB.appendAt HO.out _ _ rfl _ _ rfl rfl rfl ?_ ?_ ?_ hBr ?_ ?_)
          all_goals first | omega | exact (World.size_alloc ..).symm | skip
          intro v' w' h2 h3 h3k
          have H2 := Lib.hid h2; clear h2 h3k
          go_wp2
          go_roundw
          case rel =>
            refine ⟨k + 1, _, QPos_other HP.out hlt H34.out H92.out, by go_num, ?_, HK.out.below h3 (by omega), hb.trans (h3.mono (by omega))⟩
            simpa [ofNat_byte] using H2.out
          case measure => simp [intOf]; omega
    · have HY := Lib.hid (QPos_no HP.out hlt)
      obtain ⟨⟨c0, c1, c2, c3, c4⟩, f0, f1, f2, f3, f4⟩ := HK.out.facts
      have HC := Lib.hid HO.out.conv
      go_wp2_with fail
      simp only [HC.out, Result.andThen]
      go_wp2
      refine bodyPost_ret (v := .tuple #[lxVal ⟨3, T, 0, i, k + 1⟩, .bool false]) ?_ rfl ?_
      · simp [results, Tryd.results36, go_sem, lxVal, c0, c1, c2, c3, c4]
      · refine ⟨((((hb.setCell (Nat.le_refl _) _).setCell (Nat.le_refl _) _).setCell (Nat.le_refl _) _).setCell (Nat.le_refl _) _).setCell (Nat.le_refl _) _, ?_⟩
        unfold qTok
        rw [HY.out]
        exact ⟨_, rfl⟩
end Go.Proofs.YtlgcofinmpckkaaDoor
