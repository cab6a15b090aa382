/- Layer 4: the walks of the reference's cut and Same. -/
import Derived.Test.YtdkalcecmdadeaaDoorGp
import Derived.Test.YtdkalcecmdadeaaDoorStr
import Derived.Test.YtdkalcecmdadeaaDoorOwnL2
import Derived.Test.YtdkalcecmdadeaaDoorBlk
namespace Go.Proofs.YtdkalcecmdadeaaDoor
open Go.RowKit
set_option maxRecDepth 100000
set_option maxHeartbeats 1000000
set_option linter.unusedSimpArgs false
set_option linter.unusedVariables false

def CutAt (c : UInt8) (s : ByteArray) (k fr : Nat) (ps : List ByteArray) : Prop :=
  k ≤ s.size ∧ fr ≤ k ∧ ps.length ≤ k ∧ (cutAll c s.data.toList).map str = ps ++ (cutAcc c ((s.data.toList.drop fr).take (k - fr)) (s.data.toList.drop k)).map str
def CutRel (c : UInt8) (s : ByteArray) (w : World) (ov fv iv : Value) (wr : World) : Prop :=
  ∃ (k fr : Nat) (ps : List ByteArray), CutAt c s k fr ps ∧ iv = .int .i64 (k : Int) ∧ fv = .int .i64 (fr : Int) ∧ OwnL strS wr w.heap.size ov ps ∧ Below w.heap.size w wr
theorem dropS (s : ByteArray) {k : Nat} (hk : k < s.size) : s.data.toList.drop k = s[k] :: s.data.toList.drop (k + 1) := by
  have hk2 : k < s.data.toList.length := by rw [← ba_size]; exact hk
  rw [List.drop_eq_getElem_cons hk2]; rfl
theorem part_str (s : ByteArray) (fr k : Nat) : str ((s.data.toList.drop fr).take (k - fr)) = s.extract fr k := by
  apply ba_ext; rw [Lib.extract_data, str_data]
theorem CutAt_hit {c : UInt8} {s : ByteArray} {k fr : Nat} {ps : List ByteArray} (h : CutAt c s k fr ps) (hk : k < s.size) (hc : s[k] = c) : CutAt c s (k + 1) (k + 1) (ps ++ [s.extract fr k]) := by
  obtain ⟨h1, h2, h3, h4⟩ := h
  refine ⟨by omega, by omega, by simp; omega, ?_⟩
  rw [h4, dropS s hk, cutAcc, if_pos hc, List.map_cons, part_str, Nat.sub_self, List.take_zero]
  simp
theorem CutAt_miss {c : UInt8} {s : ByteArray} {k fr : Nat} {ps : List ByteArray} (h : CutAt c s k fr ps) (hk : k < s.size) (hc : s[k] ≠ c) : CutAt c s (k + 1) fr ps := by
  obtain ⟨h1, h2, h3, h4⟩ := h
  refine ⟨by omega, by omega, by omega, ?_⟩
  rw [h4, dropS s hk, cutAcc, if_neg hc]
  have e : (s.data.toList.drop fr).take (k + 1 - fr) = (s.data.toList.drop fr).take (k - fr) ++ [s[k]] := by
    have hk2 : k - fr < (s.data.toList.drop fr).length := by rw [List.length_drop, ← ba_size]; omega
    rw [show k + 1 - fr = (k - fr) + 1 from by omega, List.take_succ_eq_append_getElem hk2]
    congr 2
    rw [List.getElem_drop]
    simp only [show fr + (k - fr) = k from by omega]
    rfl
  rw [e]
theorem CutAt_end {c : UInt8} {s : ByteArray} {k fr : Nat} {ps : List ByteArray} (h : CutAt c s k fr ps) (hk : ¬ k < s.size) : (cutAll c s.data.toList).map str = ps ++ [s.extract fr s.size] := by
  obtain ⟨h1, h2, h3, h4⟩ := h
  obtain rfl : k = s.size := by omega
  have e : s.data.toList.drop s.size = [] := List.drop_eq_nil_of_le (by rw [← ba_size]; exact Nat.le_refl _)
  rw [h4, e, cutAcc, List.map_singleton, part_str]
def CutLRet (c : UInt8) (s : ByteArray) (w : World) (e : Ending) (w' : World) : Prop := ∃ v, e = .returned v ∧ OwnL strS w' w.heap.size v ((cutAll c s.data.toList).map str) ∧ Below w.heap.size w w'
theorem byte_beq' (a b : UInt8) : ((a.toNat : Int) == (b.toNat : Int)) = decide (a = b) := by
  rw [Bool.eq_iff_iff]
  simp only [beq_iff_eq, decide_eq_true_eq]
  constructor
  · intro h; exact UInt8.toNat_inj.1 (by omega)
  · intro h; rw [h]
theorem rcut_any (s : ByteArray) (c : UInt8) (w : World) (hs : s.size ≤ 1000000) :
    Calls Tryd.prog 32 #[.string s, .int .u8 (c.toNat : Int)] w (CutLRet c s w) := by
  go_enter Tryd.func32, Tryd.ntmps32
  go_wp2
  go_loopw [5, 6, 7] (fun ov fv iv wr => CutRel c s w ov fv iv wr) (fun _ _ iv _ => s.size - (intOf iv).toNat)
  case atStart => exact ⟨0, 0, [], ⟨by omega, by omega, by simp, by simp [cutAll]⟩, rfl, rfl, OwnL.lit0 strS w (Nat.le_refl _), (Below.refl _ _).alloc (Nat.le_refl _) _⟩
  case round =>
    obtain ⟨k, fr, ps, hat, rfl, rfl, ho, hb⟩ := hrel
    have hk := hat.1; have hfr := hat.2.1; have hpl := hat.2.2.1
    have HAT := Lib.hid hat; have HO := Lib.hid ho; have HB := Lib.hid hb
    have hsz : w.heap.size ≤ wr.heap.size := hb.size
    have hal : ps.length + 1 ≤ 100000000000 := by omega
    clear hat ho hb
    by_cases hlt : k < s.size
    · have hbx := u8_lt s[k]
      have hbq := byte_beq' s[k] c
      by_cases hc : s[k] = c
      · rw [decide_eq_true hc] at hbq
        have HN := Lib.hid (CutAt_hit HAT.out hlt hc)
        clear hc
        go_wp2_with (at_builtin; refine OwnL.append strOk HO.out (s.extract fr k) rfl _ _ rfl rfl rfl _ rfl hsz hal ?_; intro v' w' ho' hb'; have HO' := Lib.hid ho'; have HB' := Lib.hid hb'; clear ho' hb')
        go_roundw
        case rel => exact ⟨k + 1, k + 1, _, HN.out, by go_num, by go_num, HO'.out, HB.out.trans HB'.out⟩
        case measure => simp [intOf]; omega
      · rw [decide_eq_false hc] at hbq
        have HN := Lib.hid (CutAt_miss HAT.out hlt hc)
        clear hc
        go_wp2
        go_roundw
        case rel => exact ⟨k + 1, fr, _, HN.out, by go_num, rfl, HO.out, HB.out⟩
        case measure => simp [intOf]; omega
    · have HN := Lib.hid (CutAt_end HAT.out hlt)
      go_wp2_with (at_builtin; refine OwnL.append strOk HO.out (s.extract fr s.size) rfl _ _ rfl rfl rfl _ rfl hsz hal ?_; intro v' w' ho' hb'; have HO' := Lib.hid ho'; have HB' := Lib.hid hb'; clear ho' hb')
      go_ret
      exact ⟨_, rfl, by rw [HN.out]; exact HO'.out, HB.out.trans HB'.out⟩

theorem fdTypeHeld : Tryd.prog.stoodInHeld 34 = false := by kernel_rfl
theorem fdGuard : Tryd.prog.eqGuardType Tryd.prog.depth 34 = false := by kernel_rfl
def fdEq (x y : Fd) : Bool := decide (x.name.data.toList = y.name.data.toList) && decide (x.kind = y.kind) && (x.fold == y.fold) && (x.stop == y.stop) && (x.stem == y.stem)
theorem fd_eqIn (x y : Fd) (W : World) : (Op.equalIn 10000 34 x.val y.val).run Tryd.prog W = .ok (fdEq x y) W := by
  unfold Fd.val
  rw [run_equalIn_agg W 9999 34 _ _ (show Tryd.prog.underlying 34 = some (.struct (Tryd.prog.fieldsOf 34)) from by kernel_rfl) fdTypeHeld]
  simp only [Program.fieldsOf, Tryd.underlying34]
  obtain ⟨xn, xk, x1, x2, x3⟩ := x
  obtain ⟨yn, yk, y1, y2, y3⟩ := y
  simp [Op.eqFields, go_sem, Tryd.underlying3, Tryd.underlying9, Tryd.underlying4, fdEq, ByteArray.toList_eq]
  by_cases h1 : xn.data = yn.data <;> by_cases h2 : xk = yk <;> cases x1 <;> cases y1 <;> cases x2 <;> cases y2 <;> cases x3 <;> cases y3 <;> simp [h1, h2]
theorem fdEq_self (x : Fd) : fdEq x x = true := by simp [fdEq]
theorem fdEq_eq {x y : Fd} (h : fdEq x y = true) : x = y := by
  obtain ⟨xn, xk, x1, x2, x3⟩ := x
  obtain ⟨yn, yk, y1, y2, y3⟩ := y
  simp only [fdEq, Bool.and_eq_true, decide_eq_true_eq, beq_iff_eq] at h
  obtain ⟨⟨⟨⟨h1, rfl⟩, rfl⟩, rfl⟩, rfl⟩ := h
  rw [ba_ext h1]
theorem fd_neq (x y : Fd) (W : World) : (binOp .neq 34 x.val y.val).run Tryd.prog W = .ok (.bool (!fdEq x y)) W := by
  have h := fd_eqIn x y W
  unfold Fd.val at h ⊢
  rw [run_neq_struct, h]; rfl
theorem fd_guard (x y : Fd) (op : BinOp) (a b : Operand) (W : World) : (eqGuard op 34 a b x.val y.val).run Tryd.prog W = .ok () W := by
  unfold Fd.val
  exact run_eqGuard_agg W op 34 a b _ _ fdGuard
def SameRel (w : World) (cb cb' : Value) (l : List Fd) (iv : Value) (wr : World) : Prop :=
  ∃ k : Nat, k ≤ l.length ∧ iv = .int .i64 (k : Int) ∧ wr.cell? ⟨w.heap.size, 0, none⟩ = some cb ∧ wr.cell? ⟨w.heap.size + 1, 0, none⟩ = some cb' ∧ Below w.heap.size w wr
/-- Two schemas that read alike. -/
theorem rsame_any (fa fb : Value) (l : List Fd) (w : World) (B B' : Nat) (hB : B ≤ w.heap.size) (hB' : B' ≤ w.heap.size) (ha : RdL fdS w B fa l) (hb : RdL fdS w B' fb l) :
    Calls Tryd.prog 19 #[.agg #[fa], .agg #[fb]] w fun e w' => e = .returned (.bool true) ∧ Below w.heap.size w w' := by
  obtain ⟨A, cap, rfl, hc, hc2⟩ := ha.open_
  obtain ⟨A', cap', rfl, hc', hc2'⟩ := hb.open_
  unfold maxLen at hc2 hc2'
  have HA := Lib.hid ha; have HB := Lib.hid hb
  clear ha hb
  go_enter Tryd.func19, Tryd.ntmps19
  go_wp2
  go_loopw [16] (fun iv wr => SameRel w (.slice A l.length cap) (.slice A' l.length cap') l iv wr) (fun iv _ => l.length - (intOf iv).toNat)
  case atStart => exact ⟨0, by omega, rfl, by simp, by simp, ((Below.refl _ _).alloc (Nat.le_refl _) _).alloc (by rw [World.size_alloc]; omega) _⟩
  case round =>
    obtain ⟨k, hk, rfl, cb, cb', hbl⟩ := hrel
    have HR := Lib.hid (HA.out.belowW hB hbl)
    have HR' := Lib.hid (HB.out.belowW hB' hbl)
    have HBL := Lib.hid hbl
    have hz0 : w.heap.size + 1 < wr.heap.size := World.block_lt_of_cell? wr ⟨w.heap.size + 1, 0, none⟩ cb'
    clear hbl
    by_cases hlt : k < l.length
    · obtain ⟨a, rfl, hab, c0, c1, c2, c3, c4⟩ := at_fd HR.out hlt
      obtain ⟨a', rfl, hab', d0, d1, d2, d3, d4⟩ := at_fd HR'.out hlt
      have hq := fun W => fd_neq l[k] l[k] W
      have hg := fun op a b W => fd_guard l[k] l[k] op a b W
      rw [fdEq_self] at hq
      unfold Fd.val at hq hg
      generalize l[k] = x at *
      go_wp2
      go_quiet (fail)
      go_wp2
      go_roundw
      case rel => exact ⟨k + 1, by omega, by go_num, cb, cb', below_drewN HBL.out _⟩
      case measure => simp [intOf]; omega
    · go_wp2
      go_ret
      exact ⟨rfl, HBL.out⟩
end Go.Proofs.YtdkalcecmdadeaaDoor
