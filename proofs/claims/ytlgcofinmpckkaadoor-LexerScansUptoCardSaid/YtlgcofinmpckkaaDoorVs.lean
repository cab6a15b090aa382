/- The walk of the law LexerScans. -/
import Derived.Test.YtlgcofinmpckkaaDoorZu
import Derived.Test.YtlgcofinmpckkaaDoorSm
import Derived.Test.YtlgcofinmpckkaaDoorErrs
namespace Go.Proofs.YtlgcofinmpckkaaDoor
open Go.RowKit
set_option maxRecDepth 100000
set_option maxHeartbeats 1000000
set_option linter.unusedSimpArgs false
set_option linter.unusedVariables false

theorem lexEnv_err {W : World} {ea : List Addr} (h : ErrEnv W ea) (hc : ClsEnv W) : LexEnv W (errI ea 15) := by
  have h15 := h.cell 15 (by omega)
  have hb := (h.at_.get 15 (by rw [h.len]; omega)).2
  have e : errI ea 15 = errV (ea[15]'(by rw [h.len]; omega)) := by
    unfold errI; rw [List.getD_eq_getElem?_getD, List.getElem?_eq_getElem (by rw [h.len]; omega)]; rfl
  refine ⟨hc, ⟨h15, World.block_lt_of_cell? W ⟨0, 0, none⟩ h15⟩, ?_⟩
  obtain ⟨c, t, hb⟩ := hb
  rw [e]
  exact ⟨_, c, t, rfl, hb⟩
theorem scans_walk (q : ByteArray) (w : World) (ea : List Addr) (hq : q.size ≤ 10000000) (hE : ErrEnv w ea) (hc : ClsEnv w) :
    Calls Tryd.prog 4 #[.string q] w fun e w' => e = .returned (.bool true) ∧ Below w.heap.size w w' := by
  have HE := Lib.hid hE
  have HL := Lib.hid (lexEnv_err hE hc)
  clear hE hc
  go_enter Tryd.func4, Tryd.ntmps4
  go_wp2_with fail
  refine (lives_any w _ HL.out).mono ?_
  rintro e w1 ⟨rfl, hb1⟩
  have HB1 := Lib.hid hb1
  have HL1 := Lib.hid (HL.out.below hb1)
  clear hb1
  go_wp2_with fail
  refine (Scan_any q w1 _ hq HL1.out.cls HL1.out.at_).mono ?_
  rintro e w2 ⟨hb2, hm⟩
  have HB2 := Lib.hid (HB1.out.trans (hb2.mono HB1.out.size))
  rcases hr : scanL q.data.toList with ⟨la, _ | z⟩
  · rw [hr] at hm
    obtain ⟨sl, rfl, ho⟩ := hm
    have HO := Lib.hid (ho.more HB1.out.size)
    obtain ⟨A, cap, rfl, -, -, -⟩ := ho.open_
    have HRR := Lib.hid hr
    clear hb2 ho hr
    go_wp2_with fail
    refine (ScanR_any q w2 hq).mono ?_
    rintro e w3 ⟨hb3, hm⟩
    rw [HRR.out] at hm
    obtain ⟨sm, ho2, rfl⟩ := hm
    obtain ⟨A2, cap2, rfl, -, -, -⟩ := ho2.open_
    have HB3 := Lib.hid (HB2.out.trans (hb3.mono HB2.out.size))
    have HO3 := Lib.hid (HO.out.below hb3)
    have HM3 := Lib.hid ho2
    clear hb3 ho2
    simp only [Option.getD_none, Option.isSome_none, Bool.false_eq_true, if_false]
    go_wp2_with fail
    refine (same_any _ _ la la w3 w.heap.size w2.heap.size HO3.out HM3.out).mono ?_
    rintro e w4 ⟨rfl, hb4⟩
    have HB4 := Lib.hid (HB3.out.trans (hb4.mono HB3.out.size))
    have hdec : decide (la = la) = true := decide_eq_true rfl
    rw [hdec]
    clear hb4
    go_wp2_with fail
    refine (Num_nil w4).mono ?_
    rintro e w5 ⟨rfl, rfl⟩
    go_wp2
    go_ret
    exact ⟨rfl, HB4.out⟩
  · rw [hr] at hm
    subst hm
    have hla : la = [] := by
      rcases scanF_or (q.data.toList.length + 1) q.data.toList 0 with h | h
      · have h2 : (scanL q.data.toList).2 = none := h
        rw [hr] at h2; cases h2
      · have h2 : (scanL q.data.toList).1 = [] := h
        rw [hr] at h2; exact h2
    subst hla
    have HRR := Lib.hid hr
    clear hb2 hr
    go_wp2_with fail
    refine (ScanR_any q w2 hq).mono ?_
    rintro e w3 ⟨hb3, hm⟩
    rw [HRR.out] at hm
    obtain ⟨sm, ho2, rfl⟩ := hm
    obtain ⟨A2, cap2, rfl, -, -, -⟩ := ho2.open_
    have HB3 := Lib.hid (HB2.out.trans (hb3.mono HB2.out.size))
    have HM3 := Lib.hid ho2
    have HE3 := Lib.hid (HE.out.below HB3.out)
    clear hb3 ho2
    simp only [Option.getD_some, Option.isSome_some, if_true]
    go_wp2_with fail
    refine (same_any _ _ [] [] w3 w.heap.size w2.heap.size (OwnL.nil _ _ _) HM3.out).mono ?_
    rintro e w4 ⟨rfl, hb4⟩
    have HB4 := Lib.hid (HB3.out.trans (hb4.mono HB3.out.size))
    have HE4 := Lib.hid (HE.out.below HB4.out)
    have hdec : decide (([] : List Lx) = []) = true := decide_eq_true rfl
    rw [hdec]
    clear hb4
    go_wp2_with fail
    refine (Num_any ea 15 (by omega) w4 HE4.out).mono ?_
    rintro e w5 ⟨rfl, rfl⟩
    go_wp2
    go_ret
    exact ⟨rfl, HB4.out⟩
theorem lexerScans_env {W : World} (h : laidMetH Tryd.prog Rows.lexerScansUptoRow.laid W) : ∃ ea, ErrEnv W ea ∧ ClsEnv W := by
  have h0 : laidMet Tryd.prog Rows.lexerScansUptoRow.laid W := h
  obtain ⟨ea, h1⟩ := errEnv_of h0 (by rfl)
  have h3 := h0.filter (fun x => x.1 == "concord/lexer.classes")
  exact ⟨ea, h1, cls_of_head (rest := []) h3⟩
theorem lexerScans_walk (a0 : ByteArray) (w0 : a0.size ≤ 1048576) (w : World) (hE : ∃ ea, ErrEnv w ea ∧ ClsEnv w) :
    Calls Tryd.prog 4 #[.string a0] w fun e w' => e = .returned (.bool true) ∧ Below w.heap.size w w' := by
  obtain ⟨ea, hE, hc⟩ := hE
  exact scans_walk a0 w ea (by omega) hE hc
end Go.Proofs.YtlgcofinmpckkaaDoor
