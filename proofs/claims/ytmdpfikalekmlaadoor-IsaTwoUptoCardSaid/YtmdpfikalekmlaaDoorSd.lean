/- Layer 20: two programs compared. -/
import Derived.Test.YtmdpfikalekmlaaDoorPa
import Derived.Test.YtmdpfikalekmlaaDoorCv
import Derived.Test.YtmdpfikalekmlaaDoorRow
namespace Go.Proofs.YtmdpfikalekmlaaDoor
open Go.RowKit
set_option maxRecDepth 100000
set_option maxHeartbeats 2000000
set_option linter.unusedSimpArgs false
set_option linter.unusedVariables false

def SiRel (l m : List Int) (iv : Value) : Prop := ∃ k : Nat, k ≤ l.length ∧ l.take k = m.take k ∧ iv = .int .i64 (k : Int)
theorem sameInts_any (a b : Value) (l m : List Int) (w : World) (B B' : Nat) (ha : RdL intS w B a l) (hb : RdL intS w B' b m) (hB : B ≤ w.heap.size) (hB' : B' ≤ w.heap.size) :
    Calls Tryd.prog 50 #[a, b] w fun e w' => e = .returned (.bool (decide (l = m))) ∧ Below w.heap.size w w' := by
  obtain ⟨A, ca, rfl, hca, hca2⟩ := ha.open_
  obtain ⟨A', cb, rfl, hcb, hcb2⟩ := hb.open_
  unfold maxLen at hca2 hcb2
  have HA := Lib.hid ha; have HB := Lib.hid hb
  clear ha hb
  by_cases hlen : l.length = m.length
  · have hlb : ((l.length : Int) != (m.length : Int)) = false := by rw [hlen]; simp
    go_enter Tryd.func50, Tryd.ntmps50
    go_wp2
    go_loopw [13] (fun iv wr => SiRel l m iv ∧ Below w.heap.size w wr) (fun iv _ => l.length - (intOf iv).toNat)
    case atStart => exact ⟨⟨0, by omega, by simp, rfl⟩, Below.refl _ _⟩
    case round =>
      obtain ⟨⟨k, hk, htk, rfl⟩, hbl⟩ := hrel
      have HT := Lib.hid htk; have HBL := Lib.hid hbl
      clear htk hbl
      by_cases hlt : k < l.length
      · have hlt2 : k < m.length := by omega
        obtain ⟨g, rfl, z0, c0⟩ := at_int (HA.out.below (HBL.out.mono hB)) hlt
        obtain ⟨g', rfl, z1, d0⟩ := at_int (HB.out.below (HBL.out.mono hB')) hlt2
        by_cases hx : l[k] = m[k]
        · have HN := Lib.hid (show l.take (k + 1) = m.take (k + 1) from by
            rw [List.take_succ_eq_append_getElem hlt, List.take_succ_eq_append_getElem hlt2, HT.out, hx])
          rw [← hx] at d0
          clear hx
          generalize l[k] = x at *
          go_wp2
          go_region
          go_wp2
          go_roundw
          case rel => exact ⟨⟨k + 1, by omega, HN.out, by go_num⟩, HBL.out.drew⟩
          case measure => simp [intOf]; omega
        · have HN := Lib.hid (show decide (l = m) = false from by rw [decide_eq_false_iff_not]; intro h; subst h; exact hx rfl)
          have hxb : (l[k] != m[k]) = true := by simpa using hx
          clear hx
          generalize l[k] = x at *
          generalize m[k] = y at *
          go_wp2
          go_region
          go_wp2
          go_ret
          exact ⟨congrArg (fun b => Ending.returned (.bool b)) HN.out.symm, HBL.out.drew⟩
      · have HN := Lib.hid (show decide (l = m) = true from by
          rw [decide_eq_true_iff]
          have h := HT.out
          rw [List.take_of_length_le (by omega), List.take_of_length_le (by omega)] at h
          exact h)
        go_wp2
        go_ret
        exact ⟨congrArg (fun b => Ending.returned (.bool b)) HN.out.symm, HBL.out⟩
  · have hlb : ((l.length : Int) != (m.length : Int)) = true := by simp; omega
    have HN := Lib.hid (show decide (l = m) = false from by rw [decide_eq_false_iff_not]; intro h; exact hlen (by rw [h]))
    go_enter Tryd.func50, Tryd.ntmps50
    go_wp2
    go_ret
    exact ⟨congrArg (fun b => Ending.returned (.bool b)) HN.out.symm, Below.refl _ _⟩
theorem ftypeLf : Tryd.prog.stoodInHeld 93 = false := by kernel_rfl
theorem guardLf : Tryd.prog.eqGuardType Tryd.prog.depth 93 = false := by kernel_rfl
theorem structLf : Tryd.prog.underlying 93 = some (.struct (Tryd.prog.fieldsOf 93)) := by kernel_rfl
def lfVal (x : Lf) : Value := .agg #[.int .i64 x.field, .string (str x.term)]
theorem lf_eqIn (x y : Lf) (W : World) : (Op.equalIn 10000 93 (lfVal x) (lfVal y)).run Tryd.prog W = .ok (decide (x = y)) W := by
  unfold lfVal
  rw [run_equalIn_agg W 9999 93 _ _ structLf ftypeLf]
  simp only [Program.fieldsOf, Tryd.underlying93]
  simp [Op.eqFields, go_sem, Tryd.underlying3, Tryd.underlying9]
  have ht : ((str x.term).toList = (str y.term).toList) ↔ x.term = y.term := by
    rw [ByteArray.toList_eq, ByteArray.toList_eq]; simp [str]
  obtain ⟨xf, xt⟩ := x
  obtain ⟨yf, yt⟩ := y
  simp only [ht, Lf.mk.injEq]
  by_cases h1 : xf = yf <;> by_cases h2 : xt = yt <;> simp [h1, h2]
theorem lf_neq (x y : Lf) (W : World) : (binOp .neq 93 (lfVal x) (lfVal y)).run Tryd.prog W = .ok (.bool (!decide (x = y))) W := by
  have h := lf_eqIn x y W
  unfold lfVal at h ⊢
  rw [run_neq_struct, h]; rfl
theorem lf_guard (x y : Lf) (op : BinOp) (a b : Operand) (W : World) : (eqGuard op 93 a b (lfVal x) (lfVal y)).run Tryd.prog W = .ok () W := by
  unfold lfVal
  exact run_eqGuard_agg W op 93 a b _ _ guardLf
theorem str_inj2 {a b : List UInt8} (e : str a = str b) : a = b := by
  have := congrArg (fun s : ByteArray => s.data.toList) e
  simpa [str] using this
theorem str_ne_beq2 {a b : List UInt8} (h : a ≠ b) : ((str a).toList == (str b).toList) = false := by
  rw [beq_eq_false_iff_ne]
  intro e
  rw [ByteArray.toList_eq, ByteArray.toList_eq] at e
  exact h (by simpa [str] using e)
end Go.Proofs.YtmdpfikalekmlaaDoor
