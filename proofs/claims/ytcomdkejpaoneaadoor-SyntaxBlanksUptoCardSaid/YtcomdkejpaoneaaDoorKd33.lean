/- Merged for a claim by shake.py: Ze -/
import Derived.Test.YtcomdkejpaoneaaDoorKd32
section
namespace Go.Proofs.YtcomdkejpaoneaaDoor
open Go.RowKit
set_option maxRecDepth 100000
set_option maxHeartbeats 8000000
set_option linter.unusedSimpArgs false
set_option linter.unusedVariables false
theorem NdR.kind_eq {w : World} {F : Nat → Prop} {x : NV} {t : Nd} (h : NdR w F x t) : x.kind = t.kind := by cases h; rfl
theorem errAt16 {W : World} {ea : List Addr} (h : ErrEnv W ea) : ErrAt W 16 (errI ea 16) :=
  ⟨h.cell 16 (by omega), World.block_lt_of_cell? W ⟨16, 0, none⟩ (h.cell 16 (by omega))⟩
theorem nd0_rd (w : World) : NdR w (fun _ => True) ⟨0, [], [], 0, bd0, bd0, ⟨none, 0, 0⟩, ⟨none, 0, 0⟩⟩ nd0 := .mk (RdF.nil _ _ _) (RdF.nil _ _ _) rfl (fun i x t h => by simp at h)
def nvN : NV := ⟨0, [], [], 0, bd0, bd0, ⟨none, 0, 0⟩, ⟨none, 0, 0⟩⟩
theorem same_none0 (w : World) : Calls Tryd.prog 20 #[nvN.val, nvN.val] w (SamRet w) := same_all nd0 w (fun _ => True) (fun _ => True) nvN nvN (nd0_rd w) (nd0_rd w)
theorem nvN_val : nvN.val = .agg nv0 := by unfold nvN NV.val nv0 bd0; simp only [str_nil]
theorem same_none (w : World) : Calls Tryd.prog 20 #[.agg nv0, .agg nv0] w (SamRet w) := by
  have h := same_none0 w
  rw [nvN_val] at h
  exact h
theorem agree_walk (q : ByteArray) (w : World) (ea : List Addr) (hq : q.size ≤ 1048576) (hE : ErrEnv w ea) (hc : ClsEnv w) :
    Calls Tryd.prog 5 #[.string q] w fun e w' => e = .returned (.bool true) ∧ Below w.heap.size w w' := by
  have HLV := Lib.hid (slives_at w ea 15 (errAt15 hE) hc)
  have HE := Lib.hid (fun (W : World) (hW : Below w.heap.size w W) => And.intro (hc.belowB hc.2 hW) (hE.below hW))
  have HCK := Lib.hid (fun (W : World) (hW : Below w.heap.size w W) => scheck_any q W ea 15 (by omega) (HE.out W hW).1 (errAt15 (HE.out W hW).2))
  clear hE hc
  have hz1 := fun W => errI_nnil ea 15 W
  have hz2 := fun op x y W => errI_guard0 ea 15 op x y W
  have hz3 := fun W => errI_nil ea 16 W
  have hz4 := fun op x y W => errI_guard0 ea 16 op x y W
  have HNA := Lib.hid (fun (W : World) (hW : Below w.heap.size w W) => Num_any ea 15 (by omega) W (HE.out W hW).2)
  have HNB := Lib.hid (fun (W : World) (hW : Below w.heap.size w W) => Num_any ea 16 (by omega) W (HE.out W hW).2)
  cases hr : checkS q.data.toList with
  | inr p =>
    have HR := Lib.hid hr
    have hpl := checkS_place hr
    rw [← ba_size] at hpl
    have hp1 : decide (p ≤ q.size) = true := decide_eq_true hpl
    have hp2 : decide ((p : Int) ≤ (q.size : Int)) = true := decide_eq_true (by omega)
    have HPB := Lib.hid (fun (W : World) (hW : Below w.heap.size w W) => parse_bad hr W ea 15 (by omega) (HE.out W hW).1 (errAt15 (HE.out W hW).2))
    clear hr
    generalize errI ea 15 = va at *
    generalize errI ea 16 = vb at *
    go_enter Tryd.func5, Tryd.ntmps5
    go_wp2_with fail
    refine HLV.out.mono ?_
    rintro e w1 ⟨rfl, hb1⟩
    have HB1 := Lib.hid hb1
    clear hb1
    go_wp2_with fail
    refine (HCK.out w1 HB1.out).mono ?_
    rintro e w2 ⟨hb2, he⟩
    rw [HR.out] at he
    subst he
    simp only []
    have HB2 := Lib.hid (HB1.out.trans (hb2.mono HB1.out.size))
    clear hb2
    go_wp2_with fail
    refine (HPB.out w2 HB2.out).mono ?_
    rintro e w3 ⟨hb3, rfl⟩
    unfold nv0
    have HV3 := Lib.hid ((HB2.out.trans (hb3.mono HB2.out.size)).alloc (HB2.out.trans (hb3.mono HB2.out.size)).size (.cells #[.int .i64 0, .string ⟨#[]⟩, .string ⟨#[]⟩, .int .i64 0, .bool false, .bool false, .string ⟨#[]⟩, .bool false, .bool false, .string ⟨#[]⟩, .slice none 0 0, .slice none 0 0] 36))
    have HN3 := Lib.hid (Blk.new w3 36 #[.int .i64 0, .string ⟨#[]⟩, .string ⟨#[]⟩, .int .i64 0, .bool false, .bool false, .string ⟨#[]⟩, .bool false, .bool false, .string ⟨#[]⟩, .slice none 0 0, .slice none 0 0])
    clear hb3
    go_wp2_with fail
    generalize w3.alloc (.cells #[.int .i64 0, .string ⟨#[]⟩, .string ⟨#[]⟩, .int .i64 0, .bool false, .bool false, .string ⟨#[]⟩, .bool false, .bool false, .string ⟨#[]⟩, .slice none 0 0, .slice none 0 0] 36) = v3 at *
    
    have z0 := HN3.out.cell 0; have z1 := HN3.out.cell 1; have z2 := HN3.out.cell 2; have z3 := HN3.out.cell 3; have z4 := HN3.out.cell 4; have z5 := HN3.out.cell 5; have z6 := HN3.out.cell 6; have z7 := HN3.out.cell 7; have z8 := HN3.out.cell 8; have z9 := HN3.out.cell 9; have z10 := HN3.out.cell 10; have z11 := HN3.out.cell 11
    simp only [List.getElem?_toArray, List.getElem?_cons_zero, List.getElem?_cons_succ] at z0 z1 z2 z3 z4 z5 z6 z7 z8 z9 z10 z11
    have HSM := Lib.hid (same_none v3)
    unfold nv0 at HSM
    refine (HNA.out v3 HV3.out).mono ?_
    rintro e w' ⟨rfl, rfl⟩
    go_wp2_with fail
    refine (HNA.out v3 HV3.out).mono ?_
    rintro e w' ⟨rfl, rfl⟩
    go_wp2_with fail
    refine (HNA.out v3 HV3.out).mono ?_
    rintro e w' ⟨rfl, rfl⟩
    go_wp2_with fail
    refine HSM.out.mono ?_
    rintro e w6 ⟨rfl, hb⟩
    have HBF := Lib.hid (HV3.out.trans (hb.mono HV3.out.size))
    clear hb z0 z1 z2 z3 z4 z5 z6 z7 z8 z9 z10 z11
    go_wp2
    go_ret
    exact ⟨rfl, HBF.out⟩
  | inl n =>
    have HR := Lib.hid hr
    have hnn : ¬ ((n : Int) < 0) := by omega
    by_cases hn : n ≤ 64
    rotate_left
    · have hn2 : decide (64 < n) = true := by simp; omega
      have hn3 : decide ((64 : Int) < (n : Int)) = true := decide_eq_true (by omega)
      have HPB := Lib.hid (fun (W : World) (hW : Below w.heap.size w W) => parse_deep hr (by omega) W ea 15 16 (by omega) (HE.out W hW).1 (errAt15 (HE.out W hW).2) (errAt16 (HE.out W hW).2))
      clear hr hn
      generalize errI ea 15 = va at *
      generalize errI ea 16 = vb at *
      go_enter Tryd.func5, Tryd.ntmps5
      go_wp2_with fail
      refine HLV.out.mono ?_
      rintro e w1 ⟨rfl, hb1⟩
      have HB1 := Lib.hid hb1
      clear hb1
      go_wp2_with fail
      refine (HCK.out w1 HB1.out).mono ?_
      rintro e w2 ⟨hb2, he⟩
      rw [HR.out] at he
      subst he
      simp only []
      have HB2 := Lib.hid (HB1.out.trans (hb2.mono HB1.out.size))
      clear hb2
      go_wp2_with fail
      refine (HPB.out w2 HB2.out).mono ?_
      rintro e w3 ⟨hb3, rfl⟩
      unfold nv0
      have HV3 := Lib.hid ((HB2.out.trans (hb3.mono HB2.out.size)).alloc (HB2.out.trans (hb3.mono HB2.out.size)).size (.cells #[.int .i64 0, .string ⟨#[]⟩, .string ⟨#[]⟩, .int .i64 0, .bool false, .bool false, .string ⟨#[]⟩, .bool false, .bool false, .string ⟨#[]⟩, .slice none 0 0, .slice none 0 0] 36))
      have HN3 := Lib.hid (Blk.new w3 36 #[.int .i64 0, .string ⟨#[]⟩, .string ⟨#[]⟩, .int .i64 0, .bool false, .bool false, .string ⟨#[]⟩, .bool false, .bool false, .string ⟨#[]⟩, .slice none 0 0, .slice none 0 0])
      clear hb3
      go_wp2_with fail
      generalize w3.alloc (.cells #[.int .i64 0, .string ⟨#[]⟩, .string ⟨#[]⟩, .int .i64 0, .bool false, .bool false, .string ⟨#[]⟩, .bool false, .bool false, .string ⟨#[]⟩, .slice none 0 0, .slice none 0 0] 36) = v3 at *
      
      have z0 := HN3.out.cell 0; have z1 := HN3.out.cell 1; have z2 := HN3.out.cell 2; have z3 := HN3.out.cell 3; have z4 := HN3.out.cell 4; have z5 := HN3.out.cell 5; have z6 := HN3.out.cell 6; have z7 := HN3.out.cell 7; have z8 := HN3.out.cell 8; have z9 := HN3.out.cell 9; have z10 := HN3.out.cell 10; have z11 := HN3.out.cell 11
      simp only [List.getElem?_toArray, List.getElem?_cons_zero, List.getElem?_cons_succ] at z0 z1 z2 z3 z4 z5 z6 z7 z8 z9 z10 z11
      have HSM := Lib.hid (same_none v3)
      unfold nv0 at HSM
      refine (HNB.out v3 HV3.out).mono ?_
      rintro e w' ⟨rfl, rfl⟩
      go_wp2_with fail
      refine HSM.out.mono ?_
      rintro e w6 ⟨rfl, hb⟩
      have HBF := Lib.hid (HV3.out.trans (hb.mono HV3.out.size))
      clear hb z0 z1 z2 z3 z4 z5 z6 z7 z8 z9 z10 z11
      go_wp2
      go_ret
      exact ⟨rfl, HBF.out⟩
    · have hn2 : decide (64 < n) = false := by simp; omega
      have hn3 : decide ((64 : Int) < (n : Int)) = false := decide_eq_false (by omega)
      obtain ⟨t, hD⟩ := der_of hr
      have HK := Lib.hid hD.okK
      have HPB := Lib.hid (fun (W : World) (hW : Below w.heap.size w W) => parse_der hD hn W ea 15 (by omega) (HE.out W hW).1 (errAt15 (HE.out W hW).2))
      clear hr hn hD
      generalize errI ea 15 = va at *
      generalize errI ea 16 = vb at *
      go_enter Tryd.func5, Tryd.ntmps5
      go_wp2_with fail
      refine HLV.out.mono ?_
      rintro e w1 ⟨rfl, hb1⟩
      have HB1 := Lib.hid hb1
      clear hb1
      go_wp2_with fail
      refine (HCK.out w1 HB1.out).mono ?_
      rintro e w2 ⟨hb2, he⟩
      rw [HR.out] at he
      subst he
      simp only []
      have HB2 := Lib.hid (HB1.out.trans (hb2.mono HB1.out.size))
      clear hb2
      go_wp2_with fail
      refine (HPB.out w2 HB2.out).mono ?_
      rintro e w3 ⟨hb3, x, rfl, hx⟩
      have hk := hx.kind_eq
      have hk1 : decide (1 ≤ x.kind) = true := decide_eq_true (by rw [hk]; exact HK.out.1)
      have hk2 : decide (x.kind ≤ 15) = true := decide_eq_true (by rw [hk]; exact HK.out.2)
      clear hk hx
      obtain ⟨kd1, fl1, tx1, xn1, ⟨la1, lb1, lc1⟩, ⟨ra1, rb1, rc1⟩, ⟨oa1, on1, oc1⟩, ⟨ka1, kn1, kc1⟩⟩ := x
      unfold NV.val
      simp only [] at hk1 hk2 ⊢
      have HV3 := Lib.hid ((HB2.out.trans (hb3.mono HB2.out.size)).alloc (HB2.out.trans (hb3.mono HB2.out.size)).size (.cells #[.int .i64 kd1, .string (str fl1), .string (str tx1), .int .i64 xn1, .bool la1, .bool lb1, .string (str lc1), .bool ra1, .bool rb1, .string (str rc1), .slice oa1 on1 oc1, .slice ka1 kn1 kc1] 36))
      clear hb3
      go_wp2
      go_ret
      exact ⟨rfl, HV3.out⟩
theorem syntaxAgree_env {W : World} (h : laidMetH Tryd.prog Rows.syntaxAgreeUptoRow.laid W) : ∃ ea, ErrEnv W ea ∧ ClsEnv W := by
  have h0 : laidMet Tryd.prog Rows.syntaxAgreeUptoRow.laid W := h
  obtain ⟨ea, h1⟩ := errEnv_of h0 (by rfl)
  have h3 := h0.filter (fun x => x.1 == "concord/lexer.classes")
  exact ⟨ea, h1, cls_of_head (rest := []) h3⟩
theorem syntaxAgree_walk (a0 : ByteArray) (w0 : a0.size ≤ 1048576) (w : World) (hE : ∃ ea, ErrEnv w ea ∧ ClsEnv w) :
    Calls Tryd.prog 5 #[.string a0] w fun e w' => e = .returned (.bool true) ∧ Below w.heap.size w w' := by
  obtain ⟨ea, hE, hc⟩ := hE
  exact agree_walk a0 w ea w0 hE hc
end Go.Proofs.YtcomdkejpaoneaaDoor
end
