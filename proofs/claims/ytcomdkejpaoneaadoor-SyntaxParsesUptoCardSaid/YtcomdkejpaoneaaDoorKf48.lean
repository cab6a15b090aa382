/- Merged for a claim by shake.py: Do -/
import Derived.Test.YtcomdkejpaoneaaDoorKfA
import Derived.Test.YtcomdkejpaoneaaDoorKf40
import Derived.Test.YtcomdkejpaoneaaDoorKf47
section
namespace Go.Proofs.YtcomdkejpaoneaaDoor
open Go.RowKit
set_option maxRecDepth 100000
set_option maxHeartbeats 3000000
set_option linter.unusedSimpArgs false
set_option linter.unusedVariables false
theorem parses_walk (q : ByteArray) (w : World) (ea : List Addr) (hq : q.size ≤ 1048576) (hE : ErrEnv w ea) (hc : ClsEnv w) :
  Calls Tryd.prog 4 #[.string q] w fun e w' => e = .returned (.bool true) ∧ Below w.heap.size w w' := by
 have HLV := LH (slives_at w ea 15 (errAt15 hE) hc)
 have HE := LH (fun (W : World) (hW : Below w.heap.size w W) => And.intro (hc.belowB hc.2 hW) (hE.below hW))
 clear hE hc
 have HNA := LH (fun (W : World) (hW : Below w.heap.size w W) => Num_15 ea W (HE.out W hW).2)
 have HNB := LH (fun (W : World) (hW : Below w.heap.size w W) => Num_16 ea W (HE.out W hW).2)
 cases hr : checkS q.data.toList with
 | inr p =>
  have HPB := LH (fun (W : World) (hW : Below w.heap.size w W) => parse_bad hr W ea 15 (by omega) (HE.out W hW).1 (errAt15 (HE.out W hW).2))
  have HRP := LH (fun W => rparse_bad q W (by omega) p hr)
  clear hr
  generalize errI ea 15 = va at *
  generalize errI ea 16 = vb at *
  go_enter Tryd.func4, Tryd.ntmps4
  go_wp2_with fail
  refine HLV.out.mono ?_
  rintro e w1 ⟨rfl, hb1⟩
  have HB1 := LH hb1
  clear hb1
  go_wp2_with fail
  refine (HPB.out w1 HB1.out).mono ?_
  rintro e w3 ⟨hb3, rfl⟩
  unfold nv0
  have HV3 := LH ((HB1.out.trans (hb3.mono HB1.out.size)).alloc (HB1.out.trans (hb3.mono HB1.out.size)).size zO)
  have HN3 := LH (Blk.new w3 36 zA)
  clear hb3
  go_wp2_with fail
  generalize hv3 : w3.alloc zO = v3 at *
  refine (HRP.out v3).mono ?_
  rintro e w5 ⟨hb5, rfl⟩
  unfold nv0
  have HS3 := LH (show w3.heap.size < v3.heap.size from by rw [← hv3, World.size_alloc]; omega)
  clear hv3
  have HV5 := LH ((HV3.out.trans (hb5.mono HV3.out.size)).alloc (HV3.out.trans (hb5.mono HV3.out.size)).size zO)
  have HN4 := LH ((HN3.out.below hb5 HS3.out).alloc zO)
  have HN5 := LH (Blk.new w5 36 zA)
  clear hb5
  go_wp2_with fail
  generalize w5.alloc zO = v5 at *
  obtain ⟨z0, z1, z2, z3, z4, z5, z6, z7, z8, z9, z10, z11, -⟩ := blk12 HN4.out
  obtain ⟨y0, y1, y2, y3, y4, y5, y6, y7, y8, y9, y10, y11, -⟩ := blk12 HN5.out
  have HSM := LH (same_none v5)
  unfold nv0 at HSM
  refine (HNA.out v5 HV5.out).mono ?_
  rintro e w' ⟨rfl, rfl⟩
  go_wp2_with fail
  refine HSM.out.mono ?_
  rintro e w6 ⟨rfl, hb⟩
  have HBF := LH (HV5.out.trans (hb.mono HV5.out.size))
  clear hb z0 z1 z2 z3 z4 z5 z6 z7 z8 z9 z10 z11 y0 y1 y2 y3 y4 y5 y6 y7 y8 y9 y10 y11
  go_wp2
  go_ret
  exact ⟨rfl, HBF.out⟩
 | inl n =>
  obtain ⟨t, hD⟩ := der_of hr
  by_cases hn : n ≤ 64
  rotate_left
  ·have HPB := LH (fun (W : World) (hW : Below w.heap.size w W) => parse_deep hr (by omega) W ea 15 16 (by omega) (HE.out W hW).1 (errAt15 (HE.out W hW).2) (errAt16 (HE.out W hW).2))
   have HRP := LH (fun W => rparse_deep q W (by omega) n t hD (by omega))
   clear hr hn hD
   generalize errI ea 15 = va at *
   generalize errI ea 16 = vb at *
   go_enter Tryd.func4, Tryd.ntmps4
   go_wp2_with fail
   refine HLV.out.mono ?_
   rintro e w1 ⟨rfl, hb1⟩
   have HB1 := LH hb1
   clear hb1
   go_wp2_with fail
   refine (HPB.out w1 HB1.out).mono ?_
   rintro e w3 ⟨hb3, rfl⟩
   unfold nv0
   have HV3 := LH ((HB1.out.trans (hb3.mono HB1.out.size)).alloc (HB1.out.trans (hb3.mono HB1.out.size)).size zO)
   have HN3 := LH (Blk.new w3 36 zA)
   clear hb3
   go_wp2_with fail
   generalize hv3 : w3.alloc zO = v3 at *
   refine (HRP.out v3).mono ?_
   rintro e w5 ⟨hb5, rfl⟩
   unfold nv0
   have HS3 := LH (show w3.heap.size < v3.heap.size from by rw [← hv3, World.size_alloc]; omega)
   clear hv3
   have HV5 := LH ((HV3.out.trans (hb5.mono HV3.out.size)).alloc (HV3.out.trans (hb5.mono HV3.out.size)).size zO)
   have HN4 := LH ((HN3.out.below hb5 HS3.out).alloc zO)
   have HN5 := LH (Blk.new w5 36 zA)
   clear hb5
   go_wp2_with fail
   generalize w5.alloc zO = v5 at *
   obtain ⟨z0, z1, z2, z3, z4, z5, z6, z7, z8, z9, z10, z11, -⟩ := blk12 HN4.out
   obtain ⟨y0, y1, y2, y3, y4, y5, y6, y7, y8, y9, y10, y11, -⟩ := blk12 HN5.out
   have HSM := LH (same_none v5)
   unfold nv0 at HSM
   refine (HNB.out v5 HV5.out).mono ?_
   rintro e w' ⟨rfl, rfl⟩
   go_wp2_with fail
   refine HSM.out.mono ?_
   rintro e w6 ⟨rfl, hb⟩
   have HBF := LH (HV5.out.trans (hb.mono HV5.out.size))
   clear hb z0 z1 z2 z3 z4 z5 z6 z7 z8 z9 z10 z11 y0 y1 y2 y3 y4 y5 y6 y7 y8 y9 y10 y11
   go_wp2
   go_ret
   exact ⟨rfl, HBF.out⟩
  ·have HPB := LH (fun (W : World) (hW : Below w.heap.size w W) => parse_der hD hn W ea 15 (by omega) (HE.out W hW).1 (errAt15 (HE.out W hW).2))
   have HRP := LH (fun W => rparse_der q W (by omega) n t hD hn)
   clear hr hn hD
   generalize errI ea 15 = va at *
   generalize errI ea 16 = vb at *
   go_enter Tryd.func4, Tryd.ntmps4
   go_wp2_with fail
   refine HLV.out.mono ?_
   rintro e w1 ⟨rfl, hb1⟩
   have HB1 := LH hb1
   clear hb1
   go_wp2_with fail
   refine (HPB.out w1 HB1.out).mono ?_
   rintro e w3 ⟨hb3, x, rfl, hx⟩
   obtain ⟨kd1, fl1, tx1, xn1, ⟨la1, lb1, lc1⟩, ⟨ra1, rb1, rc1⟩, ⟨oa1, on1, oc1⟩, ⟨ka1, kn1, kc1⟩⟩ := x
   unfold NV.val
   simp only []
   have HV3 := LH ((HB1.out.trans (hb3.mono HB1.out.size)).alloc (HB1.out.trans (hb3.mono HB1.out.size)).size (.cells #[.int .i64 kd1, .string (str fl1), .string (str tx1), .int .i64 xn1, .bool la1, .bool lb1, .string (str lc1), .bool ra1, .bool rb1, .string (str rc1), .slice oa1 on1 oc1, .slice ka1 kn1 kc1] 36))
   have HN3 := LH (Blk.new w3 36 #[.int .i64 kd1, .string (str fl1), .string (str tx1), .int .i64 xn1, .bool la1, .bool lb1, .string (str lc1), .bool ra1, .bool rb1, .string (str rc1), .slice oa1 on1 oc1, .slice ka1 kn1 kc1])
   have HX3 := LH (hx.belowW ((Below.refl w3.heap.size w3).alloc (Nat.le_refl _) (.cells #[.int .i64 kd1, .string (str fl1), .string (str tx1), .int .i64 xn1, .bool la1, .bool lb1, .string (str lc1), .bool ra1, .bool rb1, .string (str rc1), .slice oa1 on1 oc1, .slice ka1 kn1 kc1] 36)))
   clear hx
   clear hb3
   go_wp2_with fail
   generalize hv3 : w3.alloc (.cells #[.int .i64 kd1, .string (str fl1), .string (str tx1), .int .i64 xn1, .bool la1, .bool lb1, .string (str lc1), .bool ra1, .bool rb1, .string (str rc1), .slice oa1 on1 oc1, .slice ka1 kn1 kc1] 36) = v3 at *
   refine (HRP.out v3).mono ?_
   rintro e w5 ⟨hb5, y, rfl, hy⟩
   obtain ⟨kd2, fl2, tx2, xn2, ⟨la2, lb2, lc2⟩, ⟨ra2, rb2, rc2⟩, ⟨oa2, on2, oc2⟩, ⟨ka2, kn2, kc2⟩⟩ := y
   unfold NV.val
   simp only []
   have HS3 := LH (show w3.heap.size < v3.heap.size from by rw [← hv3, World.size_alloc]; omega)
   clear hv3
   have HV5 := LH ((HV3.out.trans (hb5.mono HV3.out.size)).alloc (HV3.out.trans (hb5.mono HV3.out.size)).size (.cells #[.int .i64 kd2, .string (str fl2), .string (str tx2), .int .i64 xn2, .bool la2, .bool lb2, .string (str lc2), .bool ra2, .bool rb2, .string (str rc2), .slice oa2 on2 oc2, .slice ka2 kn2 kc2] 36))
   have HN4 := LH ((HN3.out.below hb5 HS3.out).alloc (.cells #[.int .i64 kd2, .string (str fl2), .string (str tx2), .int .i64 xn2, .bool la2, .bool lb2, .string (str lc2), .bool ra2, .bool rb2, .string (str rc2), .slice oa2 on2 oc2, .slice ka2 kn2 kc2] 36))
   have HN5 := LH (Blk.new w5 36 #[.int .i64 kd2, .string (str fl2), .string (str tx2), .int .i64 xn2, .bool la2, .bool lb2, .string (str lc2), .bool ra2, .bool rb2, .string (str rc2), .slice oa2 on2 oc2, .slice ka2 kn2 kc2])
   have HX4 := LH ((HX3.out.belowW hb5).belowW ((Below.refl w5.heap.size w5).alloc (Nat.le_refl _) (.cells #[.int .i64 kd2, .string (str fl2), .string (str tx2), .int .i64 xn2, .bool la2, .bool lb2, .string (str lc2), .bool ra2, .bool rb2, .string (str rc2), .slice oa2 on2 oc2, .slice ka2 kn2 kc2] 36)))
   have HY4 := LH (hy.belowW ((Below.refl w5.heap.size w5).alloc (Nat.le_refl _) (.cells #[.int .i64 kd2, .string (str fl2), .string (str tx2), .int .i64 xn2, .bool la2, .bool lb2, .string (str lc2), .bool ra2, .bool rb2, .string (str rc2), .slice oa2 on2 oc2, .slice ka2 kn2 kc2] 36)))
   clear hy
   clear hb5
   go_wp2_with fail
   generalize w5.alloc (.cells #[.int .i64 kd2, .string (str fl2), .string (str tx2), .int .i64 xn2, .bool la2, .bool lb2, .string (str lc2), .bool ra2, .bool rb2, .string (str rc2), .slice oa2 on2 oc2, .slice ka2 kn2 kc2] 36) = v5 at *
   obtain ⟨z0, z1, z2, z3, z4, z5, z6, z7, z8, z9, z10, z11, -⟩ := blk12 HN4.out
   obtain ⟨y0, y1, y2, y3, y4, y5, y6, y7, y8, y9, y10, y11, -⟩ := blk12 HN5.out
   have HSM := LH (same_all t v5 _ _ _ _ HX4.out HY4.out)
   unfold NV.val at HSM
   simp only [] at HSM
   refine (Num_nil v5).mono ?_
   rintro e w' ⟨rfl, rfl⟩
   go_wp2_with fail
   refine HSM.out.mono ?_
   rintro e w6 ⟨rfl, hb⟩
   have HBF := LH (HV5.out.trans (hb.mono HV5.out.size))
   clear hb z0 z1 z2 z3 z4 z5 z6 z7 z8 z9 z10 z11 y0 y1 y2 y3 y4 y5 y6 y7 y8 y9 y10 y11
   go_wp2
   go_ret
   exact ⟨rfl, HBF.out⟩
theorem syntaxParses_env {W : World} (h : laidMetH Tryd.prog Rows.syntaxParsesUptoRow.laid W) : ∃ ea, ErrEnv W ea ∧ ClsEnv W := by
 have h0 : laidMet Tryd.prog Rows.syntaxParsesUptoRow.laid W := h
 obtain ⟨ea, h1⟩ := errEnv_of h0 (by rfl)
 have h3 := h0.filter (fun x => x.1 == "concord/lexer.classes")
 exact ⟨ea, h1, cls_of_head (rest := []) h3⟩
theorem syntaxParses_walk (a0 : ByteArray) (w0 : a0.size ≤ 1048576) (w : World) (hE : ∃ ea, ErrEnv w ea ∧ ClsEnv w) :
  Calls Tryd.prog 4 #[.string a0] w fun e w' => e = .returned (.bool true) ∧ Below w.heap.size w w' := by
 obtain ⟨ea, hE, hc⟩ := hE
 exact parses_walk a0 w ea w0 hE hc
end Go.Proofs.YtcomdkejpaoneaaDoor
end
