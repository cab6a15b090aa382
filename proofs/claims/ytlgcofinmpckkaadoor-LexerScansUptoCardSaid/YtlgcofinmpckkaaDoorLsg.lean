/- The reference's signs of a text. -/
import Derived.Test.YtlgcofinmpckkaaDoorLq
import Derived.Test.YtlgcofinmpckkaaDoorOwnL
namespace Go.Proofs.YtlgcofinmpckkaaDoor
open Go.RowKit
set_option maxRecDepth 100000
set_option maxHeartbeats 1000000

structure Sg where
  c : UInt8
  letter : Bool
  place : Nat
  size : Nat
def sgShape : Shape Sg := { tS := 49, tE := 52, size := 4, bytes := 24, enc := fun x => [.int .u8 x.c.toNat, .bool x.letter, .int .i64 x.place, .int .i64 x.size], zero := .agg #[.int .u8 0, .bool false, .int .i64 0, .int .i64 0] }
theorem sgOk : sgShape.Ok where
  under := Tryd.underlying49
  info := by kernel_rfl
  zs := rfl
  pos := by decide
  len := fun _ => rfl
  one := fun x u hu => by
    simp only [sgShape, List.mem_cons, List.not_mem_nil, or_false] at hu
    rcases hu with rfl | rfl | rfl | rfl <;> rfl
  small := by decide

def signsFrom : List UInt8 → Nat → List Sg
  | [], _ => []
  | [c], i => [⟨c, false, i, 1⟩]
  | c :: d :: t, i => if c = 92 then ⟨d, true, i, 2⟩ :: signsFrom t (i + 2) else ⟨c, false, i, 1⟩ :: signsFrom (d :: t) (i + 1)
def signs (l : List UInt8) : List Sg := signsFrom l 0
theorem drop_cons {l : List UInt8} {k : Nat} (h : k < l.length) : l.drop k = l[k] :: l.drop (k + 1) := List.drop_eq_getElem_cons h
theorem signs_letter {l : List UInt8} {k : Nat} (h : k + 1 < l.length) (h92 : l[k] = 92) : signsFrom (l.drop k) k = ⟨l[k + 1], true, k, 2⟩ :: signsFrom (l.drop (k + 2)) (k + 2) := by
  rw [drop_cons (by omega : k < l.length), drop_cons h, signsFrom, if_pos h92]
theorem signs_plain {l : List UInt8} {k : Nat} (h : k < l.length) (h92 : l[k] ≠ 92 ∨ l.length ≤ k + 1) : signsFrom (l.drop k) k = ⟨l[k], false, k, 1⟩ :: signsFrom (l.drop (k + 1)) (k + 1) := by
  by_cases h1 : k + 1 < l.length
  · have h2 : l[k] ≠ 92 := by rcases h92 with h | h; exact h; omega
    rw [drop_cons h, drop_cons h1, signsFrom, if_neg h2]
  · have e : l.drop (k + 1) = [] := List.drop_eq_nil_of_le (by omega)
    rw [drop_cons h, e]
    simp [signsFrom]
theorem signs_none {l : List UInt8} {k : Nat} (h : l.length ≤ k) : signsFrom (l.drop k) k = [] := by rw [List.drop_eq_nil_of_le h]; simp [signsFrom]

def SRel (s : ByteArray) (w : World) (v i : Value) (wr : World) : Prop :=
  ∃ (k : Nat) (pre : List Sg), k ≤ s.size ∧ pre.length ≤ k ∧ i = .int .i64 k ∧ OwnL sgShape wr w.heap.size v pre ∧ signs s.data.toList = pre ++ signsFrom (s.data.toList.drop k) k ∧ Below w.heap.size w wr
def RetSg (w : World) (l : List Sg) (e : Ending) (w' : World) : Prop := ∃ v, e = .returned v ∧ OwnL sgShape w' w.heap.size v l ∧ Below w.heap.size w w'
theorem getElem_list (s : ByteArray) (k : Nat) (h : k < s.size) : s.data.toList[k]'(by rw [← ba_size]; exact h) = s[k] := rfl

theorem signs_any (s : ByteArray) (w : World) (hs : s.size ≤ 10000000) :
    Calls Tryd.prog 28 #[.string s] w (RetSg w (signs s.data.toList)) := by
  go_enter Tryd.func28, Tryd.ntmps28
  go_wp2
  go_loopw [3, 4] (fun v i wr => SRel s w v i wr) (fun _ i _ => s.size - (intOf i).toNat)
  case atStart => exact ⟨0, [], by omega, by simp, rfl, OwnL.lit0 sgShape w (Nat.le_refl _), by simp [signs], (Below.refl _ _).alloc (Nat.le_refl _) _⟩
  case round =>
    obtain ⟨k, pre, hk, hpl, rfl, ho, hsg, hb⟩ := hrel
    have HO := Lib.hid ho; clear ho
    have HG := Lib.hid hsg; clear hsg
    have hBr := hb.size
    by_cases hlt : k < s.size
    · by_cases h92 : s[k] = 92
      · have hb92 : ((s[k].toNat : Int) == 92) = true := by rw [h92]; rfl
        have H92 := Lib.hid h92; clear h92
        by_cases hlt2 : k + 1 < s.size
        · go_wp2_with (at_builtin; refine OwnL.append sgOk HO.out ⟨s[k + 1], true, k, 2⟩ rfl _ _ rfl rfl rfl _ rfl hBr ?_ ?_)
          · omega
          · intro v' w' h2 h3
            have H2 := Lib.hid h2; clear h2
            go_wp2
            go_roundw
            case rel =>
              refine ⟨k + 2, _, by omega, ?_, by go_num, H2.out, ?_, hb.trans h3⟩
              · simp; omega
              · rw [HG.out, signs_letter (by rw [← ba_size]; exact hlt2) H92.out, List.append_assoc]; rfl
            case measure => simp [intOf]; omega
        · go_wp2_with (at_builtin; refine OwnL.append sgOk HO.out ⟨s[k], false, k, 1⟩ rfl _ _ rfl rfl rfl _ rfl hBr ?_ ?_)
          · omega
          · intro v' w' h2 h3
            have H2 := Lib.hid h2; clear h2
            go_wp2
            go_roundw
            case rel =>
              refine ⟨k + 1, _, by omega, ?_, by go_num, H2.out, ?_, hb.trans h3⟩
              · simp; omega
              · rw [HG.out, signs_plain (by rw [← ba_size]; exact hlt) (.inr (by rw [← ba_size]; omega)), List.append_assoc]; rfl
            case measure => simp [intOf]; omega
      · have hb92 : ((s[k].toNat : Int) == 92) = false := by rw [beq_eq_false_iff_ne]; intro h; exact h92 (byte_eq (d := 92) h)
        have H92 := Lib.hid h92; clear h92
        go_wp2_with (at_builtin; refine OwnL.append sgOk HO.out ⟨s[k], false, k, 1⟩ rfl _ _ rfl rfl rfl _ rfl hBr ?_ ?_)
        · omega
        · intro v' w' h2 h3
          have H2 := Lib.hid h2; clear h2
          go_wp2
          go_roundw
          case rel =>
            refine ⟨k + 1, _, by omega, ?_, by go_num, H2.out, ?_, hb.trans h3⟩
            · simp; omega
            · rw [HG.out, signs_plain (by rw [← ba_size]; exact hlt) (.inl H92.out), List.append_assoc]; rfl
          case measure => simp [intOf]; omega
    · go_wp2
      go_ret
      refine ⟨_, rfl, ?_, hb⟩
      rw [HG.out, signs_none (by rw [← ba_size]; omega), List.append_nil]
      exact HO.out
end Go.Proofs.YtlgcofinmpckkaaDoor
