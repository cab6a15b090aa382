/- Merged for a claim by shake.py: Va Zb Ve Zc Ye -/
import Derived.Deep.OwnRows
import Derived.Lib.LaidTab
import Derived.MakeChecks
import Derived.Test.YtcomdkejpaoneaaDoorKd19
import Derived.Test.YtcomdkejpaoneaaDoorKd22
import Derived.Test.YtcomdkejpaoneaaDoorKd28
import Derived.Test.YtcomdkejpaoneaaDoorKd29
import Derived.Test.YtcomdkejpaoneaaDoorKd30
import Derived.Test.YtcomdkejpaoneaaDoorKd31
import Derived.Test.YtcomdkejpaoneaaDoorKd7
import Derived.Test.YtcomdkejpaoneaaDoorKd8
import Derived.Test.YtcomdkejpaoneaaDoorRows
section
namespace Go.Proofs.YtcomdkejpaoneaaDoor
open Go.RowKit
set_option maxRecDepth 100000
set_option maxHeartbeats 4000000
set_option linter.unusedSimpArgs false
set_option linter.unusedVariables false
theorem lives_chk : checkS [40, 40, 97, 41, 41, 94, 50, 94, 51] = .inl 4 := by kernel_rfl
theorem lives_scanP : scanL [43, 97] = ([⟨15, [], 0, 0, 1⟩, ⟨1, [97], 0, 1, 2⟩, ⟨0, [], 0, 2, 2⟩], none) := by kernel_rfl
theorem lives_chkP : checkS [43, 97] = .inl 0 := by kernel_rfl
theorem livesD : D .list [⟨15, [], 0, 0, 1⟩, ⟨1, [97], 0, 1, 2⟩] 0 (fun f => ((fun f => [(0, ndLeaf 1 f [97] 0)]) f).map fun x => ((if (15 : Int) = 15 then 1 else 2 : Int), x.2)) :=
  D.one (D.sign (s := ⟨15, [], 0, 0, 1⟩) (A := [⟨1, [97], 0, 1, 2⟩]) (.inl rfl) (D.pieceU (D.atomP (D.bodyA (D.leafB (D.word (t := ⟨1, [97], 0, 1, 2⟩) rfl))))))
theorem errAt15 {W : World} {ea : List Addr} (h : ErrEnv W ea) : ErrAt W 0 (errI ea 15) :=
  ⟨h.cell 15 (by omega), World.block_lt_of_cell? W ⟨0, 0, none⟩ (h.cell 15 (by omega))⟩
theorem slives_at (w : World) (ea : List Addr) (n : Nat) (hE : ErrAt w 0 (errI ea n)) (hc : ClsEnv w) :
    Calls Tryd.prog 14 #[] w fun e w' => e = .returned (.bool true) ∧ Below w.heap.size w w' := by
  have HC1 := Lib.hid (scheck_any ⟨#[40, 40, 97, 41, 41, 94, 50, 94, 51]⟩ w ea n (by decide) hc hE)
  have HPR := Lib.hid (fun (W : World) (hW : Below w.heap.size w W) => pparse_ok ⟨#[43, 97]⟩ W ea n (by decide) (hc.belowB hc.2 hW) (hE.below hE.2 hW) _ 0 lives_scanP lives_chkP (by decide)
    ⟨by decide, fun t ht => by
      simp only [List.map_cons, List.map_nil, List.mem_cons, List.not_mem_nil, or_false] at ht
      rcases ht with rfl | rfl | rfl
      · exact ⟨fun h => absurd h (by decide), by decide⟩
      · exact ⟨fun h => absurd h (by decide), by decide⟩
      · exact ⟨fun h => absurd h (by decide), by decide⟩⟩ [⟨15, [], 0, 0, 1⟩, ⟨1, [97], 0, 1, 2⟩] ⟨0, [], 0, 2, 2⟩ 0 _ rfl rfl livesD)
  clear hE hc
  go_enter Tryd.func14, Tryd.ntmps14
  go_wp2_with fail
  refine HC1.out.mono ?_
  rintro e w1 ⟨hb1, he⟩
  rw [show checkS (⟨#[40, 40, 97, 41, 41, 94, 50, 94, 51]⟩ : ByteArray).data.toList = _ from lives_chk] at he
  subst he
  simp only []
  have HB1 := Lib.hid hb1
  clear hb1
  go_wp2_with fail
  refine (HPR.out w1 HB1.out).mono ?_
  rintro e w2 ⟨hb2, x, rfl, hx⟩
  have HB2 := Lib.hid (HB1.out.trans (hb2.mono HB1.out.size))
  clear hb2
  have hx2 : NdR w2 (rng w1.heap.size w2.heap.size) x (.mk 9 [] [] 0 bd0 bd0 [1] [ndLeaf 1 [] [97] 0]) := hx
  clear hx
  rcases hx2 with ⟨h1, h2, h3, h4⟩
  rename_i so sk nl
  obtain ⟨y, rfl⟩ := List.length_eq_one_iff.1 h3
  have hy := h4 0 y _ rfl rfl
  have hyt : y.text = [97] := by rcases hy with ⟨_, _, _, _⟩; rfl
  obtain ⟨oa, on, oc⟩ := so
  obtain ⟨ka, kn, kc⟩ := sk
  have hon : on = 1 := h1.1
  have hkn : kn = 1 := h2.1
  subst hon hkn
  obtain ⟨b, rfl, hbF, hbl, hc0, hcc⟩ := h2.nd0
  have hct := hcc 1 (.string (str y.text)) rfl
  rw [hyt] at hct
  have HCT := Lib.hid hct
  clear h1 h2 h3 h4 hy hyt hc0 hcc hct hbF
  have d2 : w2.cell? ⟨b.block, b.off + 2, none⟩ = some (.string ⟨#[97]⟩) := HCT.out
  unfold NV.val
  simp only []
  go_wp2
  go_ret
  exact ⟨rfl, HB2.out.alloc HB2.out.size _⟩
def SynEnv (w : World) (ea : List Addr) : Prop := ErrAt w 0 (errI ea 0) ∧ ErrAt w 16 (errI ea 1)
def synRows : List (String × List UInt8) := (errRows.filter fun x => x.1 == "concord/api.ErrSyntax") ++ (errRows.filter fun x => x.1 == "concord/api.ErrDeep")
theorem synEnv_of_rows {W : World} (h : laidMet Tryd.prog (synRows.map fun x => (x.1, errRow x.2)) W) : ∃ ea, SynEnv W ea := by
  obtain ⟨ps, h1, h2, h3⟩ := h
  obtain ⟨ea, g1, g2, g3, _⟩ := errsAt_of synRows [0, 16] ps (by kernel_rfl) (by
    have h : ([0, 16] : List Nat).all (fun g => (Tryd.prog.globals[g]?).map (·.type) == some 24) = true := by kernel_rfl
    intro g hg
    exact beq_iff_eq.1 (List.all_eq_true.1 h g hg)) h1 h2 h3
  match ea, g1 with
  | [a, b], g1 => exact ⟨[a, b], ⟨g1.1, World.block_lt_of_cell? W ⟨0, 0, none⟩ g1.1⟩, ⟨g1.2.2.1, World.block_lt_of_cell? W ⟨16, 0, none⟩ g1.2.2.1⟩⟩
theorem synEnv_of {W : World} {l : List (String × DataW Unit)} (h : laidMet Tryd.prog l W) (e : l.filter (fun x => (synRows.map (·.1)).contains x.1) = synRows.map fun x => (x.1, errRow x.2)) : ∃ ea, SynEnv W ea := by
  have := h.filter (fun x => (synRows.map (·.1)).contains x.1)
  rw [e] at this
  exact synEnv_of_rows this
end Go.Proofs.YtcomdkejpaoneaaDoor
end
section
namespace Go.Proofs.YtcomdkejpaoneaaDoor
open Go.RowKit
set_option maxRecDepth 100000
set_option maxHeartbeats 4000000
set_option linter.unusedSimpArgs false
set_option linter.unusedVariables false
theorem parse_der {s : ByteArray} {n : Nat} {t : Nd} (h : Der s.data.toList n t) (hn : n ≤ 64) (w : World) (ea : List Addr) (ei : Nat) (hs : s.size ≤ 10000000) (hE : ClsEnv w) (hv : ErrAt w 0 (errI ea ei)) :
    Calls Tryd.prog 18 #[.string s] w (ParRet t w) := by
  have hc := h.check
  obtain ⟨la, A, e, v, hs1, hA, he, hD, rfl⟩ := h.toks
  exact pparse_ok s w ea ei hs hE hv la n hs1 hc hn (scan_tkok hs1 (by rw [← ba_size]; exact hs)) A e n v hA he hD
theorem check_der {s : ByteArray} {n : Nat} {t : Nd} (h : Der s.data.toList n t) (w : World) (ea : List Addr) (ei : Nat) (hs : s.size ≤ 10000000) (hE : ClsEnv w) (hv : ErrAt w 0 (errI ea ei)) :
    Calls Tryd.prog 15 #[.string s] w fun e w' => Below w.heap.size w w' ∧ e = .returned (.tuple #[.int .i64 (n : Int), .int .i64 0, .nilIface]) := by
  have := scheck_any s w ea ei hs hE hv
  rw [h.check] at this
  exact this
theorem Der.le {l : List UInt8} {n : Nat} {t : Nd} (h : Der l n t) : n ≤ l.length := by
  obtain ⟨la, A, e, v, hs, hA, he, hD, _⟩ := h.toks
  have h1 := hD.nest_le
  have h2 := scanL_count l
  rw [hs] at h2
  have h3 := congrArg List.length hA
  rw [List.length_map, List.length_append, List.length_singleton] at h3
  simp only [] at h2
  omega
end Go.Proofs.YtcomdkejpaoneaaDoor
end
section
namespace Go.Proofs.YtcomdkejpaoneaaDoor
open Go.RowKit
set_option maxRecDepth 100000
def clsLit : List Int := [0, 0, 0, 0, 0, 0, 0, 0, 0, 1, 1, 0, 0, 1, 0, 0, 0, 0, 0, 0, 0, 0, 0, 0, 0, 0, 0, 0, 0, 0, 0, 0, 1, 0, 2, 0, 0, 0, 0, 0, 2, 2, 3, 0, 0, 0, 0, 0, 0, 0, 0, 0, 0, 0, 0, 0, 0, 0, 2, 0, 0, 0, 0, 3, 2, 0, 0, 0, 0, 0, 0, 0, 0, 0, 0, 0, 0, 0, 0, 0, 0, 0, 0, 0, 0, 0, 0, 0, 0, 0, 0, 2, 4, 2, 2, 0, 0, 0, 0, 0, 0, 0, 0, 0, 0, 0, 0, 0, 0, 0, 0, 0, 0, 0, 0, 0, 0, 0, 0, 0, 0, 0, 0, 2, 2, 2, 2, 0]
theorem clsLit_eq : clsLit = clsTab := by decide
theorem gTab : Tryd.prog.globalNamed "concord/lexer.classes" = some 24 := by kernel_rfl
theorem gTabType : (Tryd.prog.globals[24]?).map (·.type) = some 117 := by kernel_rfl
theorem cellsTab : Tryd.prog.cellsOf 117 = 128 := by kernel_rfl
theorem cellsByte : Tryd.prog.cellsOf 5 = 1 := by kernel_rfl
theorem size_of_cell {w : World} {b o : Nat} {v : Value} (h : w.cell? ⟨b, o, none⟩ = some v) : b < w.heap.size := World.block_lt_of_cell? w ⟨b, o, none⟩ h
theorem cls_of_head {W : World} {rest : List (String × DataW Unit)} (h : laidMet Tryd.prog (("concord/lexer.classes", Rows.laid_concord_lexer_classes) :: rest) W) : ClsEnv W := by
  have ht : Lib.TabIs Tryd.prog W "concord/lexer.classes" .u8 clsLit := Lib.tabIs_of_head (rest := rest) gTab gTabType Tryd.underlying117 Tryd.underlying5 cellsByte cellsTab h
  have hc : ∀ j, j < 128 → W.cell? ⟨24, j, none⟩ = some (.int .u8 (clsTab.getD j 0)) := fun j hj => by
    rw [← clsLit_eq]; exact ht.cell gTab j (by rw [show clsLit.length = 128 from by decide]; exact hj)
  exact ⟨hc, size_of_cell (hc 0 (by decide))⟩
end Go.Proofs.YtcomdkejpaoneaaDoor
end
section
namespace Go.Proofs.YtcomdkejpaoneaaDoor
open Go.RowKit
set_option maxRecDepth 100000
set_option maxHeartbeats 8000000
set_option linter.unusedSimpArgs false
set_option linter.unusedVariables false
theorem str_nil : str [] = ⟨#[]⟩ := rfl
theorem br1 (q : ByteArray) : ((⟨#[40]⟩ ++ q ++ ⟨#[41]⟩ : ByteArray)).data.toList = 40 :: (q.data.toList ++ [41]) := by simp
theorem br2 (q : ByteArray) : ((⟨#[78, 79, 84, 32, 40]⟩ ++ q ++ ⟨#[41, 94, 61, 53]⟩ : ByteArray)).data.toList = 78 :: 79 :: 84 :: 32 :: 40 :: (q.data.toList ++ [41, 94, 61, 53]) := by simp
theorem br1_size (q : ByteArray) : ((⟨#[40]⟩ ++ q ++ ⟨#[41]⟩ : ByteArray)).size = q.size + 2 := by rw [ba_append_size, ba_append_size]; show 1 + q.size + 1 = _; omega
theorem br2_size (q : ByteArray) : ((⟨#[78, 79, 84, 32, 40]⟩ ++ q ++ ⟨#[41, 94, 61, 53]⟩ : ByteArray)).size = q.size + 9 := by rw [ba_append_size, ba_append_size]; show 5 + q.size + 4 = _; omega
theorem brackets_walk (q : ByteArray) (w : World) (ea : List Addr) (hq : q.size ≤ 1048576) (hE : SynEnv w ea) (hc : ClsEnv w) :
    Calls Tryd.prog 7 #[.string q] w fun e w' => e = .returned (.bool true) ∧ Below w.heap.size w w' := by
  have HLV := Lib.hid (slives_at w ea 0 hE.1 hc)
  have HE := Lib.hid (fun (W : World) (hW : Below w.heap.size w W) => And.intro (hc.belowB hc.2 hW) (hE.1.below hE.1.2 hW))
  clear hE hc
  cases hr : checkS q.data.toList with
  | inr p =>
    have HCK := Lib.hid (fun (W : World) (hW : Below w.heap.size w W) => scheck_any q W ea 0 (by omega) (HE.out W hW).1 (HE.out W hW).2)
    have hz1 := fun W => errI_nnil ea 0 W
    have hz2 := fun op x y W => errI_guard0 ea 0 op x y W
    have HR := Lib.hid hr
    clear HE hr
    generalize errI ea 0 = v at *
    go_enter Tryd.func7, Tryd.ntmps7
    go_wp2_with fail
    refine HLV.out.mono ?_
    rintro e w1 ⟨rfl, hb1⟩
    have HB1 := Lib.hid hb1
    clear hb1
    go_wp2_with fail
    refine (HCK.out w1 HB1.out).mono ?_
    rintro e w2 ⟨hb2, he⟩
    rw [HR.out] at he
    subst he
    simp only []
    have HB2 := Lib.hid (HB1.out.trans (hb2.mono HB1.out.size))
    clear hb2
    go_wp2
    go_ret
    exact ⟨rfl, HB2.out⟩
  | inl n =>
    obtain ⟨t, hD⟩ := der_of hr
    have hD1 : Der (⟨#[40]⟩ ++ q ++ ⟨#[41]⟩ : ByteArray).data.toList (n + 1) t := by rw [br1]; exact hD.paren
    have hD2 : Der (⟨#[78, 79, 84, 32, 40]⟩ ++ q ++ ⟨#[41, 94, 61, 53]⟩ : ByteArray).data.toList (n + 3) (ndKids 13 0 [ndKids 15 5 [t]]) := by rw [br2]; exact hD.not5
    have hs1 := br1_size q
    have hs2 := br2_size q
    have HC0 := Lib.hid (fun (W : World) (hW : Below w.heap.size w W) => check_der hD W ea 0 (by omega) (HE.out W hW).1 (HE.out W hW).2)
    have HC1 := Lib.hid (fun (W : World) (hW : Below w.heap.size w W) => check_der hD1 W ea 0 (by omega) (HE.out W hW).1 (HE.out W hW).2)
    have HC2 := Lib.hid (fun (W : World) (hW : Below w.heap.size w W) => check_der hD2 W ea 0 (by omega) (HE.out W hW).1 (HE.out W hW).2)
    have HP := Lib.hid (fun (hn : n + 3 ≤ 64) (W : World) (hW : Below w.heap.size w W) => And.intro (parse_der hD (by omega) W ea 0 (by omega) (HE.out W hW).1 (HE.out W hW).2) (And.intro (parse_der hD1 (by omega) W ea 0 (by omega) (HE.out W hW).1 (HE.out W hW).2) (parse_der hD2 hn W ea 0 (by omega) (HE.out W hW).1 (HE.out W hW).2)))
    have HN := Lib.hid hD.le
    have hnl : (n : Int) ≤ 1000000000 := by have h := HN.out; rw [← ba_size] at h; omega
    have e1 : ((n + 1 : Nat) : Int) = (n : Int) + 1 := by omega
    have e3 : ((n + 3 : Nat) : Int) = (n : Int) + 3 := by omega
    have E13 := Lib.hid (And.intro e1 e3)
    clear hD hD1 hD2 hr hs1 hs2 e1 e3
    go_enter Tryd.func7, Tryd.ntmps7
    go_wp2_with fail
    refine HLV.out.mono ?_
    rintro e w1 ⟨rfl, hb1⟩
    have HB1 := Lib.hid hb1
    clear hb1
    go_wp2_with fail
    refine (HC0.out w1 HB1.out).mono ?_
    rintro e w2 ⟨hb2, rfl⟩
    have HB2 := Lib.hid (HB1.out.trans (hb2.mono HB1.out.size))
    clear hb2
    go_wp2_with fail
    refine (HC1.out w2 HB2.out).mono ?_
    rintro e w3 ⟨hb3, rfl⟩
    rw [E13.out.1]
    have HB3 := Lib.hid (HB2.out.trans (hb3.mono HB2.out.size))
    clear hb3
    go_wp2_with fail
    refine (HC2.out w3 HB3.out).mono ?_
    rintro e w4 ⟨hb4, rfl⟩
    rw [E13.out.2]
    have HB4 := Lib.hid (HB3.out.trans (hb4.mono HB3.out.size))
    clear hb4
    by_cases hn : n + 3 ≤ 64
    rotate_left
    · have hn2 : decide ((64 : Int) < (n : Int) + 3) = true := by simp; omega
      clear hn
      go_wp2
      go_ret
      exact ⟨rfl, HB4.out⟩
    have HP2 := Lib.hid (HP.out hn)
    have hn2 : decide ((64 : Int) < (n : Int) + 3) = false := by simp; omega
    clear hn HP
    go_wp2_with fail
    refine ((HP2.out w4 HB4.out).1).mono ?_
    rintro e u1 ⟨hb, x, rfl, hx⟩
    obtain ⟨kd1, fl1, tx1, xn1, ⟨la1, lb1, lc1⟩, ⟨ra1, rb1, rc1⟩, ⟨oa1, on1, oc1⟩, ⟨ka1, kn1, kc1⟩⟩ := x
    unfold NV.val
    simp only []
    have HU1 := Lib.hid (HB4.out.trans (hb.mono HB4.out.size))
    have HV1 := Lib.hid (HU1.out.alloc HU1.out.size (.cells #[.int .i64 kd1, .string (str fl1), .string (str tx1), .int .i64 xn1, .bool la1, .bool lb1, .string (str lc1), .bool ra1, .bool rb1, .string (str rc1), .slice oa1 on1 oc1, .slice ka1 kn1 kc1] 36))
    have HN1 := Lib.hid (Blk.new u1 36 #[.int .i64 kd1, .string (str fl1), .string (str tx1), .int .i64 xn1, .bool la1, .bool lb1, .string (str lc1), .bool ra1, .bool rb1, .string (str rc1), .slice oa1 on1 oc1, .slice ka1 kn1 kc1])
    have HX1 := Lib.hid (hx.belowW ((Below.refl u1.heap.size u1).alloc (Nat.le_refl _) (.cells #[.int .i64 kd1, .string (str fl1), .string (str tx1), .int .i64 xn1, .bool la1, .bool lb1, .string (str lc1), .bool ra1, .bool rb1, .string (str rc1), .slice oa1 on1 oc1, .slice ka1 kn1 kc1] 36)))
    clear hb hx
    go_wp2_with fail
    generalize u1.alloc (.cells #[.int .i64 kd1, .string (str fl1), .string (str tx1), .int .i64 xn1, .bool la1, .bool lb1, .string (str lc1), .bool ra1, .bool rb1, .string (str rc1), .slice oa1 on1 oc1, .slice ka1 kn1 kc1] 36) = v1 at *
    refine ((HP2.out v1 HV1.out).2.1).mono ?_
    rintro e u2 ⟨hb, x, rfl, hx⟩
    obtain ⟨kd2, fl2, tx2, xn2, ⟨la2, lb2, lc2⟩, ⟨ra2, rb2, rc2⟩, ⟨oa2, on2, oc2⟩, ⟨ka2, kn2, kc2⟩⟩ := x
    unfold NV.val
    simp only []
    have HU2 := Lib.hid (HV1.out.trans (hb.mono HV1.out.size))
    have HV2 := Lib.hid (HU2.out.alloc HU2.out.size (.cells #[.int .i64 kd2, .string (str fl2), .string (str tx2), .int .i64 xn2, .bool la2, .bool lb2, .string (str lc2), .bool ra2, .bool rb2, .string (str rc2), .slice oa2 on2 oc2, .slice ka2 kn2 kc2] 36))
    have HN2 := Lib.hid (Blk.new u2 36 #[.int .i64 kd2, .string (str fl2), .string (str tx2), .int .i64 xn2, .bool la2, .bool lb2, .string (str lc2), .bool ra2, .bool rb2, .string (str rc2), .slice oa2 on2 oc2, .slice ka2 kn2 kc2])
    have HX2 := Lib.hid (hx.belowW ((Below.refl u2.heap.size u2).alloc (Nat.le_refl _) (.cells #[.int .i64 kd2, .string (str fl2), .string (str tx2), .int .i64 xn2, .bool la2, .bool lb2, .string (str lc2), .bool ra2, .bool rb2, .string (str rc2), .slice oa2 on2 oc2, .slice ka2 kn2 kc2] 36)))
    have HM21 := Lib.hid ((HN1.out.belowW hb).alloc (.cells #[.int .i64 kd2, .string (str fl2), .string (str tx2), .int .i64 xn2, .bool la2, .bool lb2, .string (str lc2), .bool ra2, .bool rb2, .string (str rc2), .slice oa2 on2 oc2, .slice ka2 kn2 kc2] 36))
    have HY21 := Lib.hid ((HX1.out.belowW hb).belowW ((Below.refl u2.heap.size u2).alloc (Nat.le_refl _) (.cells #[.int .i64 kd2, .string (str fl2), .string (str tx2), .int .i64 xn2, .bool la2, .bool lb2, .string (str lc2), .bool ra2, .bool rb2, .string (str rc2), .slice oa2 on2 oc2, .slice ka2 kn2 kc2] 36)))
    clear HN1 HX1
    have HN1 := HM21; have HX1 := HY21
    clear HM21 HY21
    clear hb hx
    go_wp2_with fail
    generalize u2.alloc (.cells #[.int .i64 kd2, .string (str fl2), .string (str tx2), .int .i64 xn2, .bool la2, .bool lb2, .string (str lc2), .bool ra2, .bool rb2, .string (str rc2), .slice oa2 on2 oc2, .slice ka2 kn2 kc2] 36) = v2 at *
    refine ((HP2.out v2 HV2.out).2.2).mono ?_
    rintro e u3 ⟨hb, x, rfl, hx⟩
    have hx2 : NdR u3 (rng v2.heap.size u3.heap.size) x (.mk 13 [] [] 0 bd0 bd0 [] [.mk 15 [] [] 5 bd0 bd0 [] [t]]) := hx
    clear hx
    rcases hx2 with ⟨h1, h2, h3, h4⟩
    rename_i so sk nl
    obtain ⟨y, rfl⟩ := List.length_eq_one_iff.1 h3
    have hy := h4 0 y _ rfl rfl
    rcases hy with ⟨g1, g2, g3, g4⟩
    rename_i so2 sk2 nl2
    obtain ⟨z, rfl⟩ := List.length_eq_one_iff.1 g3
    have hz := g4 0 z _ rfl rfl
    obtain ⟨oa3, on3, oc3⟩ := so
    obtain ⟨ka3, kn3, kc3⟩ := sk
    obtain ⟨oa4, on4, oc4⟩ := so2
    obtain ⟨ka4, kn4, kc4⟩ := sk2
    obtain rfl : on3 = 0 := h1.1
    obtain rfl : kn3 = 1 := h2.1
    obtain rfl : on4 = 0 := g1.1
    obtain rfl : kn4 = 1 := g2.1
    obtain ⟨b, rfl, hbF, hbl, hc0, hcc⟩ := h2.nd0
    obtain ⟨c, rfl, hcF, hcl, hd0, hdd⟩ := g2.nd0
    obtain ⟨kd5, fl5, tx5, xn5, ⟨la5, lb5, lc5⟩, ⟨ra5, rb5, rc5⟩, ⟨oa5, on5, oc5⟩, ⟨ka5, kn5, kc5⟩⟩ := z
    have HCB := Lib.hid (show u3.cell? b = some (.int .i64 15) ∧ u3.cell? ⟨b.block, b.off + 3, none⟩ = some (.int .i64 5) ∧ u3.cell? ⟨b.block, b.off + 11, none⟩ = some (.slice (some c) 1 kc4) ∧ b.block < u3.heap.size from ⟨hc0, hcc 2 _ rfl, hcc 10 _ rfl, hbl⟩)
    have HCC := Lib.hid (show u3.cell? c = some (.int .i64 kd5) ∧ u3.cell? ⟨c.block, c.off + 1, none⟩ = some (.string (str fl5)) ∧ u3.cell? ⟨c.block, c.off + 2, none⟩ = some (.string (str tx5)) ∧ u3.cell? ⟨c.block, c.off + 3, none⟩ = some (.int .i64 xn5) ∧ u3.cell? ⟨c.block, c.off + 4, none⟩ = some (.bool la5) ∧ u3.cell? ⟨c.block, c.off + 5, none⟩ = some (.bool lb5) ∧ u3.cell? ⟨c.block, c.off + 6, none⟩ = some (.string (str lc5)) ∧ u3.cell? ⟨c.block, c.off + 7, none⟩ = some (.bool ra5) ∧ u3.cell? ⟨c.block, c.off + 8, none⟩ = some (.bool rb5) ∧ u3.cell? ⟨c.block, c.off + 9, none⟩ = some (.string (str rc5)) ∧ u3.cell? ⟨c.block, c.off + 10, none⟩ = some (.slice oa5 on5 oc5) ∧ u3.cell? ⟨c.block, c.off + 11, none⟩ = some (.slice ka5 kn5 kc5) ∧ c.block < u3.heap.size from ⟨hd0, hdd 0 _ rfl, hdd 1 _ rfl, hdd 2 _ rfl, hdd 3 _ rfl, hdd 4 _ rfl, hdd 5 _ rfl, hdd 6 _ rfl, hdd 7 _ rfl, hdd 8 _ rfl, hdd 9 _ rfl, hdd 10 _ rfl, hcl⟩)
    have HXZ := Lib.hid hz
    clear h1 h2 h3 h4 g1 g2 g3 g4 hbF hcF hc0 hcc hd0 hdd hz hbl hcl
    unfold NV.val bd0
    simp only [str_nil]
    have HU3 := Lib.hid (HV2.out.trans (hb.mono HV2.out.size))
    have HV3 := Lib.hid (HU3.out.alloc HU3.out.size (.cells #[.int .i64 13, .string ⟨#[]⟩, .string ⟨#[]⟩, .int .i64 0, .bool false, .bool false, .string ⟨#[]⟩, .bool false, .bool false, .string ⟨#[]⟩, .slice oa3 0 oc3, .slice (some b) 1 kc3] 36))
    have HN3 := Lib.hid (Blk.new u3 36 #[.int .i64 13, .string ⟨#[]⟩, .string ⟨#[]⟩, .int .i64 0, .bool false, .bool false, .string ⟨#[]⟩, .bool false, .bool false, .string ⟨#[]⟩, .slice oa3 0 oc3, .slice (some b) 1 kc3])
    have HA3 := Lib.hid (show Below u3.heap.size u3 (u3.alloc (.cells #[.int .i64 13, .string ⟨#[]⟩, .string ⟨#[]⟩, .int .i64 0, .bool false, .bool false, .string ⟨#[]⟩, .bool false, .bool false, .string ⟨#[]⟩, .slice oa3 0 oc3, .slice (some b) 1 kc3] 36)) from (Below.refl u3.heap.size u3).alloc (Nat.le_refl _) (.cells #[.int .i64 13, .string ⟨#[]⟩, .string ⟨#[]⟩, .int .i64 0, .bool false, .bool false, .string ⟨#[]⟩, .bool false, .bool false, .string ⟨#[]⟩, .slice oa3 0 oc3, .slice (some b) 1 kc3] 36))
    have HM := Lib.hid ((HN1.out.belowW hb).belowW HA3.out)
    have HY := Lib.hid ((HX1.out.belowW hb).belowW HA3.out)
    clear HN1 HX1
    have HN1 := HM; have HX1 := HY
    clear HM HY
    have HM := Lib.hid ((HN2.out.belowW hb).belowW HA3.out)
    have HY := Lib.hid ((HX2.out.belowW hb).belowW HA3.out)
    clear HN2 HX2
    have HN2 := HM; have HX2 := HY
    clear HM HY
    have HXZ3 := Lib.hid (HXZ.out.belowW HA3.out)
    clear hb HXZ
    have HNN := Lib.hid (And.intro HN1.out HN2.out)
    have aL := HN1.out.lt
    have a0 := HN1.out.cell 0; have a1 := HN1.out.cell 1; have a2 := HN1.out.cell 2; have a3 := HN1.out.cell 3; have a4 := HN1.out.cell 4; have a5 := HN1.out.cell 5; have a6 := HN1.out.cell 6; have a7 := HN1.out.cell 7; have a8 := HN1.out.cell 8; have a9 := HN1.out.cell 9; have a10 := HN1.out.cell 10; have a11 := HN1.out.cell 11
    simp only [List.getElem?_toArray, List.getElem?_cons_zero, List.getElem?_cons_succ] at a0 a1 a2 a3 a4 a5 a6 a7 a8 a9 a10 a11
    have bL := HN2.out.lt
    have b0 := HN2.out.cell 0; have b1 := HN2.out.cell 1; have b2 := HN2.out.cell 2; have b3 := HN2.out.cell 3; have b4 := HN2.out.cell 4; have b5 := HN2.out.cell 5; have b6 := HN2.out.cell 6; have b7 := HN2.out.cell 7; have b8 := HN2.out.cell 8; have b9 := HN2.out.cell 9; have b10 := HN2.out.cell 10; have b11 := HN2.out.cell 11
    simp only [List.getElem?_toArray, List.getElem?_cons_zero, List.getElem?_cons_succ] at b0 b1 b2 b3 b4 b5 b6 b7 b8 b9 b10 b11
    
    have HSM := Lib.hid (same_all t (u3.alloc (.cells #[.int .i64 13, .string ⟨#[]⟩, .string ⟨#[]⟩, .int .i64 0, .bool false, .bool false, .string ⟨#[]⟩, .bool false, .bool false, .string ⟨#[]⟩, .slice oa3 0 oc3, .slice (some b) 1 kc3] 36)) _ _ _ _ HX1.out HX2.out)
    unfold NV.val at HSM
    simp only [] at HSM
    go_wp2_with fail
    clear a0 b0 a1 b1 a2 b2 a3 b3 a4 b4 a5 b5 a6 b6 a7 b7 a8 b8 a9 b9 a10 b10 a11 b11 aL bL
    generalize u3.alloc (.cells #[.int .i64 13, .string ⟨#[]⟩, .string ⟨#[]⟩, .int .i64 0, .bool false, .bool false, .string ⟨#[]⟩, .bool false, .bool false, .string ⟨#[]⟩, .slice oa3 0 oc3, .slice (some b) 1 kc3] 36) = v3 at *
    refine HSM.out.mono ?_
    rintro e w6 ⟨rfl, hb⟩
    have HB6 := Lib.hid (HV3.out.trans (hb.mono HV3.out.size))
    have HA6 := Lib.hid (show Below u3.heap.size u3 w6 from HA3.out.trans (hb.mono HA3.out.size))
    have HN16 := Lib.hid (HN1.out.belowW hb); have HN36 := Lib.hid (HN3.out.belowW hb)
    have HX16 := Lib.hid (HX1.out.belowW hb); have HXZ6 := Lib.hid (HXZ3.out.belowW hb)
    clear hb HN1 HN2 HN3 HX1 HX2 HXZ3 HNN HSM
    have HSF := Lib.hid (fun (W : World) (hW : Below w6.heap.size w6 W) => (show W.cell? ⟨u3.heap.size, 0, none⟩ = some (.int .i64 13) ∧ W.cell? ⟨u3.heap.size, 11, none⟩ = some (.slice (some b) 1 kc3) ∧ W.cell? b = some (.int .i64 15) ∧ W.cell? ⟨b.block, b.off + 3, none⟩ = some (.int .i64 5) ∧ W.cell? ⟨b.block, b.off + 11, none⟩ = some (.slice (some c) 1 kc4) ∧ W.cell? c = some (.int .i64 kd5) ∧ W.cell? ⟨c.block, c.off + 1, none⟩ = some (.string (str fl5)) ∧ W.cell? ⟨c.block, c.off + 2, none⟩ = some (.string (str tx5)) ∧ W.cell? ⟨c.block, c.off + 3, none⟩ = some (.int .i64 xn5) ∧ W.cell? ⟨c.block, c.off + 4, none⟩ = some (.bool la5) ∧ W.cell? ⟨c.block, c.off + 5, none⟩ = some (.bool lb5) ∧ W.cell? ⟨c.block, c.off + 6, none⟩ = some (.string (str lc5)) ∧ W.cell? ⟨c.block, c.off + 7, none⟩ = some (.bool ra5) ∧ W.cell? ⟨c.block, c.off + 8, none⟩ = some (.bool rb5) ∧ W.cell? ⟨c.block, c.off + 9, none⟩ = some (.string (str rc5)) ∧ W.cell? ⟨c.block, c.off + 10, none⟩ = some (.slice oa5 on5 oc5) ∧ W.cell? ⟨c.block, c.off + 11, none⟩ = some (.slice ka5 kn5 kc5) ∧ W.cell? ⟨u1.heap.size, 0, none⟩ = some (.int .i64 kd1) ∧ W.cell? ⟨u1.heap.size, 1, none⟩ = some (.string (str fl1)) ∧ W.cell? ⟨u1.heap.size, 2, none⟩ = some (.string (str tx1)) ∧ W.cell? ⟨u1.heap.size, 3, none⟩ = some (.int .i64 xn1) ∧ W.cell? ⟨u1.heap.size, 4, none⟩ = some (.bool la1) ∧ W.cell? ⟨u1.heap.size, 5, none⟩ = some (.bool lb1) ∧ W.cell? ⟨u1.heap.size, 6, none⟩ = some (.string (str lc1)) ∧ W.cell? ⟨u1.heap.size, 7, none⟩ = some (.bool ra1) ∧ W.cell? ⟨u1.heap.size, 8, none⟩ = some (.bool rb1) ∧ W.cell? ⟨u1.heap.size, 9, none⟩ = some (.string (str rc1)) ∧ W.cell? ⟨u1.heap.size, 10, none⟩ = some (.slice oa1 on1 oc1) ∧ W.cell? ⟨u1.heap.size, 11, none⟩ = some (.slice ka1 kn1 kc1) ∧ Below w6.heap.size w6 W from by
      have hU : Below u3.heap.size u3 W := HA6.out.trans (hW.mono HA6.out.size)
      have hn1 := HN16.out.belowW hW
      have hn3 := HN36.out.belowW hW
      obtain ⟨i0, i3, i11, il⟩ := HCB.out
      obtain ⟨j0, j1, j2, j3, j4, j5, j6, j7, j8, j9, j10, j11, jl⟩ := HCC.out
      exact ⟨hn3.cell 0, hn3.cell 11, (hU.cell (p := b) il).trans i0, (hU.cell (p := ⟨b.block, b.off + 3, none⟩) il).trans i3, (hU.cell (p := ⟨b.block, b.off + 11, none⟩) il).trans i11, (hU.cell (p := c) jl).trans j0, (hU.cell (p := ⟨c.block, c.off + 1, none⟩) jl).trans j1, (hU.cell (p := ⟨c.block, c.off + 2, none⟩) jl).trans j2, (hU.cell (p := ⟨c.block, c.off + 3, none⟩) jl).trans j3, (hU.cell (p := ⟨c.block, c.off + 4, none⟩) jl).trans j4, (hU.cell (p := ⟨c.block, c.off + 5, none⟩) jl).trans j5, (hU.cell (p := ⟨c.block, c.off + 6, none⟩) jl).trans j6, (hU.cell (p := ⟨c.block, c.off + 7, none⟩) jl).trans j7, (hU.cell (p := ⟨c.block, c.off + 8, none⟩) jl).trans j8, (hU.cell (p := ⟨c.block, c.off + 9, none⟩) jl).trans j9, (hU.cell (p := ⟨c.block, c.off + 10, none⟩) jl).trans j10, (hU.cell (p := ⟨c.block, c.off + 11, none⟩) jl).trans j11, hn1.cell 0, hn1.cell 1, hn1.cell 2, hn1.cell 3, hn1.cell 4, hn1.cell 5, hn1.cell 6, hn1.cell 7, hn1.cell 8, hn1.cell 9, hn1.cell 10, hn1.cell 11, hW⟩))
    obtain ⟨z0, z11, i0, i3, i11, -⟩ := HSF.out w6 (Below.refl _ _)
    have HSM := Lib.hid (fun (W : World) (hW : Below w6.heap.size w6 W) => (same_all t W _ _ _ _ (HXZ6.out.belowW hW) (HX16.out.belowW hW)).mono (fun e w' (h : SamRet W e w') => (show e = .returned (.bool true) ∧ Below w6.heap.size w6 w' from ⟨h.1, hW.trans (h.2.mono hW.size)⟩)))
    unfold NV.val at HSM
    simp only [] at HSM
    go_wp2_with fail
    clear z0 z11 i0 i3 i11
    go_region_held3 (fun W => W.cell? ⟨u3.heap.size, 0, none⟩ = some (.int .i64 13) ∧ W.cell? ⟨u3.heap.size, 11, none⟩ = some (.slice (some b) 1 kc3) ∧ W.cell? b = some (.int .i64 15) ∧ W.cell? ⟨b.block, b.off + 3, none⟩ = some (.int .i64 5) ∧ W.cell? ⟨b.block, b.off + 11, none⟩ = some (.slice (some c) 1 kc4) ∧ W.cell? c = some (.int .i64 kd5) ∧ W.cell? ⟨c.block, c.off + 1, none⟩ = some (.string (str fl5)) ∧ W.cell? ⟨c.block, c.off + 2, none⟩ = some (.string (str tx5)) ∧ W.cell? ⟨c.block, c.off + 3, none⟩ = some (.int .i64 xn5) ∧ W.cell? ⟨c.block, c.off + 4, none⟩ = some (.bool la5) ∧ W.cell? ⟨c.block, c.off + 5, none⟩ = some (.bool lb5) ∧ W.cell? ⟨c.block, c.off + 6, none⟩ = some (.string (str lc5)) ∧ W.cell? ⟨c.block, c.off + 7, none⟩ = some (.bool ra5) ∧ W.cell? ⟨c.block, c.off + 8, none⟩ = some (.bool rb5) ∧ W.cell? ⟨c.block, c.off + 9, none⟩ = some (.string (str rc5)) ∧ W.cell? ⟨c.block, c.off + 10, none⟩ = some (.slice oa5 on5 oc5) ∧ W.cell? ⟨c.block, c.off + 11, none⟩ = some (.slice ka5 kn5 kc5) ∧ W.cell? ⟨u1.heap.size, 0, none⟩ = some (.int .i64 kd1) ∧ W.cell? ⟨u1.heap.size, 1, none⟩ = some (.string (str fl1)) ∧ W.cell? ⟨u1.heap.size, 2, none⟩ = some (.string (str tx1)) ∧ W.cell? ⟨u1.heap.size, 3, none⟩ = some (.int .i64 xn1) ∧ W.cell? ⟨u1.heap.size, 4, none⟩ = some (.bool la1) ∧ W.cell? ⟨u1.heap.size, 5, none⟩ = some (.bool lb1) ∧ W.cell? ⟨u1.heap.size, 6, none⟩ = some (.string (str lc1)) ∧ W.cell? ⟨u1.heap.size, 7, none⟩ = some (.bool ra1) ∧ W.cell? ⟨u1.heap.size, 8, none⟩ = some (.bool rb1) ∧ W.cell? ⟨u1.heap.size, 9, none⟩ = some (.string (str rc1)) ∧ W.cell? ⟨u1.heap.size, 10, none⟩ = some (.slice oa1 on1 oc1) ∧ W.cell? ⟨u1.heap.size, 11, none⟩ = some (.slice ka1 kn1 kc1) ∧ Below w6.heap.size w6 W) (exact HSF.out _ (by repeat (first | assumption | exact Below.refl _ _ | with_reducible refine Below.drew ?_))) (((with_reducible refine (HSM.out _ ?_).mono ?_); (repeat (first | assumption | exact Below.refl _ _ | with_reducible refine Below.drew ?_)); (rintro e w' ⟨rfl, hk1⟩)))
    rename_i hfin
    have HBF := Lib.hid (HB6.out.trans (hfin.2.2.2.2.2.2.2.2.2.2.2.2.2.2.2.2.2.2.2.2.2.2.2.2.2.2.2.2.2.mono HB6.out.size))
    clear hfin
    go_wp2
    go_ret
    exact ⟨rfl, HBF.out⟩
theorem syntaxBrackets_env {W : World} (h : laidMetH Tryd.prog Rows.syntaxBracketsUptoRow.laid W) : ∃ ea, SynEnv W ea ∧ ClsEnv W := by
  have h0 : laidMet Tryd.prog Rows.syntaxBracketsUptoRow.laid W := h
  obtain ⟨ea, h1⟩ := synEnv_of h0 (by rfl)
  have h3 := h0.filter (fun x => x.1 == "concord/lexer.classes")
  exact ⟨ea, h1, cls_of_head (rest := []) h3⟩
theorem syntaxBrackets_walk (a0 : ByteArray) (w0 : a0.size ≤ 1048576) (w : World) (hE : ∃ ea, SynEnv w ea ∧ ClsEnv w) :
    Calls Tryd.prog 7 #[.string a0] w fun e w' => e = .returned (.bool true) ∧ Below w.heap.size w w' := by
  obtain ⟨ea, hE, hc⟩ := hE
  exact brackets_walk a0 w ea w0 hE hc
end Go.Proofs.YtcomdkejpaoneaaDoor
end
section
namespace Go.Proofs.YtcomdkejpaoneaaDoor
set_option maxRecDepth 100000
set_option linter.unusedSimpArgs false
set_option linter.unusedVariables false
theorem scanF_places {f : Nat} {l : List UInt8} {i : Nat} {la : List Lx} (h : scanF f l i = (la, none)) : ∀ x ∈ la, x.at_ ≤ i + l.length := by
  induction f generalizing l i la with
  | zero => simp [scanF] at h
  | succ f ih =>
    cases l with
    | nil =>
      simp only [scanF, Prod.mk.injEq] at h
      rw [← h.1]
      intro x hx
      rw [List.mem_singleton] at hx
      subst hx
      exact Nat.le_refl _
    | cons c t =>
      rw [scanF] at h
      split at h
      · intro x hx
        have := ih h x hx
        rw [List.length_cons]; omega
      · rename_i hc
        split at h
        · cases h
        · rename_i k ht
          have hl := tok_len ht (fun d hd => by simp only [List.head?_cons, Option.some.injEq] at hd; rw [← hd]; exact hc)
          rw [List.length_cons] at hl
          rcases hr : scanF f ((c :: t).drop k.len) (i + k.len) with ⟨u, _ | z⟩
          · rw [hr] at h
            simp only [ahead, List.singleton_append, Prod.mk.injEq, and_true] at h
            rw [← h]
            intro x hx
            rw [List.mem_cons] at hx
            rcases hx with rfl | hx
            · exact Nat.le_add_right _ _
            · have := ih hr x hx
              rw [List.length_drop, List.length_cons] at this
              rw [List.length_cons]; omega
          · rw [hr] at h
            simp [ahead] at h
theorem checkS_place {l : List UInt8} {p : Nat} (h : checkS l = .inr p) : p ≤ l.length := by
  unfold checkS at h
  rcases hs : scanL l with ⟨la, _ | a⟩
  · rw [hs] at h
    simp only [] at h
    cases hr : runI mc0 0 (la.map Lx.lt) with
    | inl m => rw [hr] at h; cases h
    | inr i =>
      rw [hr] at h
      simp only [Sum.inr.injEq] at h
      rw [← h]
      cases hx : la[i]? with
      | none => exact Nat.zero_le _
      | some x =>
        have := scanF_places hs x (List.mem_of_getElem? hx)
        simp only [Option.map_some, Option.getD_some]; omega
  · rw [hs] at h
    simp only [Sum.inr.injEq] at h
    rw [← h]
    have := (scanL_some (q := l) (by rw [hs])).1
    omega
def Nd.kind : Nd → Int
  | .mk k _ _ _ _ _ _ _ => k
theorem patF_kind (f t : List UInt8) : ∀ (letters l : List UInt8), (patF f t letters l).kind = 4 ∨ (patF f t letters l).kind = 3
  | letters, [] => .inl rfl
  | letters, [c] => by
    unfold patF
    split
    · exact .inr rfl
    · exact .inl rfl
  | letters, c :: d :: r => by
    rw [patF]
    split
    · exact .inl rfl
    · split
      · exact patF_kind f t _ r
      · exact patF_kind f t _ (d :: r)
def ndOkK (x : Nd) : Prop := 1 ≤ x.kind ∧ x.kind ≤ 15
theorem ndOkK_of {x : Nd} {k : Int} (e : x.kind = k) (h : 1 ≤ k ∧ k ≤ 15) : ndOkK x := by unfold ndOkK; rw [e]; exact h
theorem patN_okK (f t : List UInt8) : ndOkK (patN f t) := by
  unfold patN ndOkK
  split
  · exact ndOkK_of (k := 7) rfl (by decide)
  · rcases patF_kind f t [] t with h | h <;> rw [h] <;> exact ⟨by decide, by decide⟩
def vlOk (l : List (Int × Nd)) : Prop := l ≠ [] ∧ ∀ x ∈ l, ndOkK x.2
theorem vlOk_one {o : Int} {x : Nd} (h : ndOkK x) : vlOk [(o, x)] := ⟨by simp, fun y hy => by rw [List.mem_singleton.1 hy]; exact h⟩
theorem vlOk_app {a b : List (Int × Nd)} (h : vlOk a) (h2 : vlOk b) : vlOk (a ++ b) := ⟨by simp [h.1], fun y hy => by
  rcases List.mem_append.1 hy with hy | hy
  · exact h.2 y hy
  · exact h2.2 y hy⟩
theorem wrapN_okK {k : Int} {l : List (Int × Nd)} (hk : 1 ≤ k ∧ k ≤ 15) (h : vlOk l) : vlOk (wrapN k l) := by
  unfold wrapN
  split
  · rename_i x
    exact vlOk_one (h.2 x (List.mem_singleton.2 rfl))
  · exact vlOk_one (ndOkK_of rfl hk)
theorem treeN_okK {l : List (Int × Nd)} (h : vlOk l) : ndOkK (treeN l) := by
  unfold treeN
  split
  · rename_i x
    exact h.2 _ (List.mem_singleton.2 rfl)
  · exact ndOkK_of (k := 9) rfl (by decide)
theorem D.okK {p : Pt} {A : List Lt} {n : Nat} {v : Vl} (h : D p A n v) : ∀ f, vlOk (v f) := by
  induction h with
  | word _ => exact fun f => vlOk_one (ndOkK_of (k := 1) rfl (by decide))
  | edits _ _ _ => exact fun f => vlOk_one (ndOkK_of (k := 5) rfl (by decide))
  | pat _ => exact fun f => vlOk_one (patN_okK f _)
  | quo _ => exact fun f => vlOk_one (ndOkK_of (k := 2) rfl (by decide))
  | slop _ _ _ => exact fun f => vlOk_one (ndOkK_of (k := 2) rfl (by decide))
  | span _ _ _ _ _ => exact fun f => vlOk_one (ndOkK_of (k := 6) rfl (by decide))
  | group _ _ _ ih => exact fun f => vlOk_one (treeN_okK (ih f))
  | least _ _ _ _ ih =>
    intro f
    refine vlOk_one ?_
    split
    · exact ndOkK_of (k := 9) rfl (by decide)
    · exact treeN_okK (ih f)
  | leafB _ ih => exact ih
  | groupB _ ih => exact ih
  | bodyA _ ih => exact ih
  | field _ _ _ ih => exact fun _ => ih _
  | all _ _ _ => exact fun f => vlOk_one (ndOkK_of (k := 8) rfl (by decide))
  | atomP _ ih => exact ih
  | sfx _ _ _ =>
    intro f
    refine vlOk_one ?_
    split
    · exact ndOkK_of (k := 15) rfl (by decide)
    · exact ndOkK_of (k := 14) rfl (by decide)
  | pieceU _ ih => exact ih
  | not _ _ _ => exact fun f => vlOk_one (ndOkK_of (k := 13) rfl (by decide))
  | maxU _ ih => exact ih
  | bar _ _ _ ih1 ih2 => exact fun f => vlOk_app (ih1 f) (ih2 f)
  | andM _ ih => exact fun f => wrapN_okK ⟨by decide, by decide⟩ (ih f)
  | and _ _ _ ih1 ih2 => exact fun f => vlOk_app (ih1 f) (wrapN_okK ⟨by decide, by decide⟩ (ih2 f))
  | orA _ ih => exact fun f => wrapN_okK ⟨by decide, by decide⟩ (ih f)
  | or _ _ _ ih1 ih2 => exact fun f => vlOk_app (ih1 f) (wrapN_okK ⟨by decide, by decide⟩ (ih2 f))
  | clauseO _ ih => exact fun f => wrapN_okK ⟨by decide, by decide⟩ (ih f)
  | sign _ _ ih => exact fun f => ⟨by simp [(ih f).1], fun y hy => by
      obtain ⟨z, hz, rfl⟩ := List.mem_map.1 hy
      exact (ih f).2 z hz⟩
  | one _ ih => exact ih
  | more _ _ ih1 ih2 => exact fun f => vlOk_app (ih1 f) (ih2 f)
theorem Der.okK {l : List UInt8} {n : Nat} {t : Nd} (h : Der l n t) : ndOkK t := by
  obtain ⟨A, v, _, hD, rfl⟩ := h
  exact treeN_okK (hD.okK [])
end Go.Proofs.YtcomdkejpaoneaaDoor
end
