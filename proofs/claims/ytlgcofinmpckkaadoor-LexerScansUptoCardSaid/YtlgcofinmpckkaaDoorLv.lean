/- The walk of the laws' lives; comparisons with the error. -/
import Derived.Test.YtlgcofinmpckkaaDoorEnv
import Derived.Deep.RegionWith
namespace Go.Proofs.YtlgcofinmpckkaaDoor
open Go.RowKit
set_option maxRecDepth 100000
set_option maxHeartbeats 1000000
set_option linter.unusedSimpArgs false

theorem infoErrP : (Tryd.prog.info? 72).map (·.comparable) = some true := by kernel_rfl
theorem infoErrS : (Tryd.prog.info? 90).isSome = true := by kernel_rfl
theorem err_eq {w : World} {v : Value} (h : ErrVal w v) (W : World) : (binOp .eql 27 v v).run Tryd.prog W = .ok (.bool true) W := by
  obtain ⟨a, _, _, rfl, _⟩ := h
  obtain ⟨i, hi, hc⟩ := Option.map_eq_some_iff.1 infoErrP
  obtain ⟨j, hj⟩ := Option.isSome_iff_exists.1 infoErrS
  exact run_eql_iface_ptr_same W a Tryd.underlying27 Tryd.underlying72 hi hc hj
theorem err_nil {w : World} {v : Value} (h : ErrVal w v) (W : World) : (binOp .eql 27 v .nilIface).run Tryd.prog W = .ok (.bool false) W := by
  obtain ⟨a, _, _, rfl, _⟩ := h
  have h : ∀ d : Nat, (Op.equalIn (d + 1) 27 (.iface 72 (.pointer (some a))) .nilIface).run Tryd.prog W = .ok false W := fun d => by simp [Op.equalIn, run_underlying Tryd.underlying27]
  simp only [binOp]
  simp [Op.equal, Op.maxDepth, h 9999]
theorem err_nil' {w : World} {v : Value} (h : ErrVal w v) (W : World) : (binOp .neq 27 v .nilIface).run Tryd.prog W = .ok (.bool true) W := by
  obtain ⟨a, _, _, rfl, _⟩ := h
  have h : ∀ d : Nat, (Op.equalIn (d + 1) 27 (.iface 72 (.pointer (some a))) .nilIface).run Tryd.prog W = .ok false W := fun d => by simp [Op.equalIn, run_underlying Tryd.underlying27]
  simp only [binOp]
  simp [Op.equal, Op.maxDepth, h 9999]
theorem err_neq {w : World} {v : Value} (h : ErrVal w v) (W : World) : (binOp .neq 27 v v).run Tryd.prog W = .ok (.bool false) W := by
  obtain ⟨a, _, _, rfl, _⟩ := h
  obtain ⟨i, hi, hc⟩ := Option.map_eq_some_iff.1 infoErrP
  obtain ⟨j, hj⟩ := Option.isSome_iff_exists.1 infoErrS
  simp only [binOp]
  simp [Op.equal, Op.maxDepth, run_equalIn_iface_ptr_same W 9998 a Tryd.underlying27 Tryd.underlying72 hi hc hj]

theorem err_guard {w : World} {v : Value} (h : ErrVal w v) (op : BinOp) (x y : Operand) (W : World) : (eqGuard op 27 x y v v).run Tryd.prog W = .ok () W := by
  obtain ⟨a, _, _, rfl, _⟩ := h
  cases op <;> simp [eqGuard, go_sem, Op.eqGuardIn, Op.maxDepth, run_underlying Tryd.underlying27]
theorem err_guard0 {w : World} {v : Value} (h : ErrVal w v) (op : BinOp) (x y : Operand) (W : World) : (eqGuard op 27 x y v .nilIface).run Tryd.prog W = .ok () W := by
  obtain ⟨a, _, _, rfl, _⟩ := h
  cases op <;> simp [eqGuard, go_sem, Op.eqGuardIn, Op.maxDepth, run_underlying Tryd.underlying27]
theorem lives_scan1 : scanL [97, 32, 45, 98] = ([⟨1, [97], 0, 0, 1⟩, ⟨16, [], 0, 2, 3⟩, ⟨1, [98], 0, 3, 4⟩, ⟨0, [], 0, 4, 4⟩], none) := by kernel_rfl
theorem lives_scan2 : scanL [97, 32, 94] = ([], some 2) := by kernel_rfl

theorem lives_any (w : World) (v : Value) (hE : LexEnv w v) :
    Calls Tryd.prog 15 #[] w fun e w' => e = .returned (.bool true) ∧ Below w.heap.size w w' := by
  have HE := Lib.hid hE
  have HQ := Lib.hid (fun W => err_eq hE.val W)
  have HG := Lib.hid (fun op x y W => err_guard hE.val op x y W)
  clear hE
  go_enter Tryd.func15, Tryd.ntmps15
  go_wp2_with fail
  refine (Scan_any ⟨#[97, 32, 45, 98]⟩ w v (by decide) HE.out.cls HE.out.at_).mono ?_
  rintro e w1 ⟨hb1, hm⟩
  rw [show scanL (⟨#[97, 32, 45, 98]⟩ : ByteArray).data.toList = _ from lives_scan1] at hm
  obtain ⟨sl, rfl, ho⟩ := hm
  obtain ⟨A, cap, rfl, -, -, -⟩ := ho.open_
  have HB1 := Lib.hid hb1; have HO := Lib.hid ho
  clear hb1 ho
  simp only [List.length_cons, List.length_nil]
  go_wp2_with fail
  have HE1 := Lib.hid (HE.out.below HB1.out)
  refine (Scan_any ⟨#[97, 32, 94]⟩ w1 v (by decide) HE1.out.cls HE1.out.at_).mono ?_
  rintro e w2 ⟨hb2, hm⟩
  rw [show scanL (⟨#[97, 32, 94]⟩ : ByteArray).data.toList = _ from lives_scan2] at hm
  subst hm
  have HE2 := Lib.hid (HE1.out.below hb2)
  have HO2 := Lib.hid (HO.out.below hb2)
  have HB2 := Lib.hid (HB1.out.trans (hb2.mono HB1.out.size))
  clear hb2
  have hA : ∃ g, A = some ⟨g, 0, none⟩ := by obtain ⟨g, h, _⟩ := HO2.out.at_ lexOk (k := 0) (by decide); exact ⟨g, h⟩
  obtain ⟨g, rfl⟩ := hA
  have c0 : w2.cell? ⟨g, 0, none⟩ = some (.int .i64 1) := by obtain ⟨_, h, h2⟩ := HO2.out.at_ lexOk (k := 0) (by decide); cases h; exact h2 0 _ (by decide) rfl
  have c1 : w2.cell? ⟨g, 5, none⟩ = some (.int .i64 16) := by obtain ⟨_, h, h2⟩ := HO2.out.at_ lexOk (k := 1) (by decide); cases h; exact h2 0 _ (by decide) rfl
  have c2 : w2.cell? ⟨g, 11, none⟩ = some (.string (str [98])) := by obtain ⟨_, h, h2⟩ := HO2.out.at_ lexOk (k := 2) (by decide); cases h; exact h2 1 _ (by decide) rfl
  have c3 : w2.cell? ⟨g, 15, none⟩ = some (.int .i64 0) := by obtain ⟨_, h, h2⟩ := HO2.out.at_ lexOk (k := 3) (by decide); cases h; exact h2 0 _ (by decide) rfl
  have cv := HE2.out.at_.1
  have hq := HQ.out
  have hg := HG.out
  simp only [str] at c2
  go_wp2
  go_ret
  exact ⟨rfl, HB2.out⟩
end Go.Proofs.YtlgcofinmpckkaaDoor
