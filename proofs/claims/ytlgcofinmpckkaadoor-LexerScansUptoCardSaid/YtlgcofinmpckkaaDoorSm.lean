/- The walk of the laws' same; two tokens compared. -/
import Derived.Test.YtlgcofinmpckkaaDoorLv
namespace Go.Proofs.YtlgcofinmpckkaaDoor
open Go.RowKit
set_option maxRecDepth 100000
set_option maxHeartbeats 1000000
set_option linter.unusedSimpArgs false

deriving instance DecidableEq for Lx
theorem ftypeLex : Tryd.prog.stoodInHeld 35 = false := by kernel_rfl
theorem guardLex : Tryd.prog.eqGuardType Tryd.prog.depth 35 = false := by kernel_rfl
theorem structLex : Tryd.prog.underlying 35 = some (.struct (Tryd.prog.fieldsOf 35)) := by kernel_rfl
theorem lx_eqIn (x y : Lx) (W : World) : (Op.equalIn 10000 35 (lxVal x) (lxVal y)).run Tryd.prog W = .ok (decide (x = y)) W := by
  unfold lxVal
  rw [run_equalIn_agg W 9999 35 _ _ structLex ftypeLex]
  simp only [Program.fieldsOf, Tryd.underlying35]
  simp [Op.eqFields, go_sem, Tryd.underlying3, Tryd.underlying9]
  have ht : ((str x.text).toList = (str y.text).toList) ↔ x.text = y.text := by
    rw [ByteArray.toList_eq, ByteArray.toList_eq]; simp [str]
  obtain ⟨xk, xt, xn, xa, xe⟩ := x
  obtain ⟨yk, yt, yn, ya, ye⟩ := y
  simp only [ht, Lx.mk.injEq]
  by_cases h1 : xk = yk <;> by_cases h2 : xt = yt <;> by_cases h3 : xn = yn <;> by_cases h4 : xa = ya <;> by_cases h5 : xe = ye <;> simp [h1, h2, h3, h4, h5, Int.natCast_inj]
theorem lx_neq (x y : Lx) (W : World) : (binOp .neq 35 (lxVal x) (lxVal y)).run Tryd.prog W = .ok (.bool (!decide (x = y))) W := by
  have h := lx_eqIn x y W
  unfold lxVal at h ⊢
  rw [run_neq_struct, h]; rfl
theorem lx_eql (x y : Lx) (W : World) : (binOp .eql 35 (lxVal x) (lxVal y)).run Tryd.prog W = .ok (.bool (decide (x = y))) W := by
  have h := lx_eqIn x y W
  unfold lxVal at h ⊢
  rw [run_eql_struct, h]; rfl
theorem lx_guard (x y : Lx) (op : BinOp) (a b : Operand) (W : World) : (eqGuard op 35 a b (lxVal x) (lxVal y)).run Tryd.prog W = .ok () W := by
  unfold lxVal
  exact run_eqGuard_agg W op 35 a b _ _ guardLex

/-- Loading an element of a slice of tokens. -/
theorem at_lx {w : World} {B : Nat} {A : Option Addr} {n cap : Nat} {l : List Lx} (h : OwnL lexS w B (.slice A n cap) l) {k : Nat} (hk : k < l.length) :
    ∃ g, A = some ⟨g, 0, none⟩ ∧ w.cell? ⟨g, k * 5, none⟩ = some (.int .i64 l[k].kind) ∧ w.cell? ⟨g, k * 5 + 1, none⟩ = some (.string (str l[k].text)) ∧ w.cell? ⟨g, k * 5 + 2, none⟩ = some (.int .i64 l[k].n) ∧ w.cell? ⟨g, k * 5 + 3, none⟩ = some (.int .i64 l[k].at_) ∧ w.cell? ⟨g, k * 5 + 4, none⟩ = some (.int .i64 l[k].end_) := by
  obtain ⟨g, rfl, h'⟩ := h.at_ lexOk hk
  clear h
  have h := h'
  exact ⟨g, rfl, h 0 _ (by decide) rfl, h 1 _ (by decide) rfl, h 2 _ (by decide) rfl, h 3 _ (by decide) rfl, h 4 _ (by decide) rfl⟩
def SmRel (l m : List Lx) (iv : Value) : Prop := ∃ k : Nat, k ≤ l.length ∧ l.take k = m.take k ∧ iv = .int .i64 (k : Int)
theorem same_any (a b : Value) (l m : List Lx) (w : World) (B B' : Nat) (ha : OwnL lexS w B a l) (hb : OwnL lexS w B' b m) :
    Calls Tryd.prog 18 #[a, b] w fun e w' => e = .returned (.bool (decide (l = m))) ∧ Below w.heap.size w w' := by
  obtain ⟨A, ca, rfl, hca, hca2, -⟩ := ha.open_
  obtain ⟨A', cb, rfl, hcb, hcb2, -⟩ := hb.open_
  unfold maxLen at hca2 hcb2
  have HA := Lib.hid ha; have HB := Lib.hid hb
  clear ha hb
  by_cases hlen : l.length = m.length
  · have hlb : ((l.length : Int) != (m.length : Int)) = false := by rw [hlen]; simp
    go_enter Tryd.func18, Tryd.ntmps18
    go_wp2
    go_loopw [13] (fun iv wr => SmRel l m iv ∧ Below w.heap.size w wr ∧ OwnL lexS wr B (.slice A l.length ca) l ∧ OwnL lexS wr B' (.slice A' m.length cb) m) (fun iv _ => l.length - (intOf iv).toNat)
    case atStart => exact ⟨⟨0, by omega, by simp, rfl⟩, Below.refl _ _, HA.out, HB.out⟩
    case round =>
      obtain ⟨⟨k, hk, htk, rfl⟩, hbl, ha, hb⟩ := hrel
      have HT := Lib.hid htk; have HBL := Lib.hid hbl; have HA := Lib.hid ha; have HB := Lib.hid hb
      clear htk hbl ha hb
      by_cases hlt : k < l.length
      · have hlt2 : k < m.length := by omega
        obtain ⟨g, rfl, c0, c1, c2, c3, c4⟩ := at_lx HA.out hlt
        obtain ⟨g', rfl, d0, d1, d2, d3, d4⟩ := at_lx HB.out hlt2
        have hq := fun W => lx_neq l[k] m[k] W
        have hg := fun op a b W => lx_guard l[k] m[k] op a b W
        unfold lxVal at hq hg
        by_cases hx : l[k] = m[k]
        · have HN := Lib.hid (show l.take (k + 1) = m.take (k + 1) from by
            rw [List.take_succ_eq_append_getElem hlt, List.take_succ_eq_append_getElem hlt2, HT.out, hx])
          rw [show decide (l[k] = m[k]) = true from decide_eq_true hx] at hq
          clear hx
          generalize l[k] = x at *
          generalize m[k] = y at *
          go_wp2
          go_region
          go_wp2
          go_roundw
          case rel => exact ⟨⟨k + 1, by omega, HN.out, by go_num⟩, HBL.out.drew, HA.out.drew, HB.out.drew⟩
          case measure => simp [intOf]; omega
        · have HN := Lib.hid (show decide (l = m) = false from by rw [decide_eq_false_iff_not]; intro h; subst h; exact hx rfl)
          rw [show decide (l[k] = m[k]) = false from decide_eq_false hx] at hq
          clear hx
          generalize l[k] = x at *
          generalize m[k] = y at *
          go_wp2
          go_region
          go_wp2
          go_ret
          exact ⟨congrArg (fun b => Ending.returned (.bool b)) HN.out.symm, HBL.out.drew⟩
      · have HN := Lib.hid (show decide (l = m) = true from by
          rw [decide_eq_true_iff]
          have h := HT.out
          rw [List.take_of_length_le (by omega), List.take_of_length_le (by omega)] at h
          exact h)
        go_wp2
        go_ret
        exact ⟨congrArg (fun b => Ending.returned (.bool b)) HN.out.symm, HBL.out⟩
  · have hlb : ((l.length : Int) != (m.length : Int)) = true := by simp; omega
    have HN := Lib.hid (show decide (l = m) = false from by rw [decide_eq_false_iff_not]; intro h; exact hlen (by rw [h]))
    go_enter Tryd.func18, Tryd.ntmps18
    go_wp2
    go_ret
    exact ⟨congrArg (fun b => Ending.returned (.bool b)) HN.out.symm, Below.refl _ _⟩
end Go.Proofs.YtlgcofinmpckkaaDoor
