/- Merged for a claim by shake.py: Va Zb Ve Zc Ye Ze Da Db Dc -/
import Derived.Test.YtcomdkejpaoneaaDoorKfA
import Derived.Lib.LaidTab
import Derived.MakeChecks
import Derived.Test.YtcomdkejpaoneaaDoorKf1
import Derived.Test.YtcomdkejpaoneaaDoorKf17
import Derived.Test.YtcomdkejpaoneaaDoorKf24
import Derived.Test.YtcomdkejpaoneaaDoorKf28
import Derived.Test.YtcomdkejpaoneaaDoorKf29
import Derived.Test.YtcomdkejpaoneaaDoorKf30
import Derived.Test.YtcomdkejpaoneaaDoorKf31
import Derived.Test.YtcomdkejpaoneaaDoorKf39
import Derived.Test.YtcomdkejpaoneaaDoorKf6
import Derived.Test.YtcomdkejpaoneaaDoorRows
section
namespace Go.Proofs.YtcomdkejpaoneaaDoor
open Go.RowKit
set_option maxRecDepth 100000
set_option maxHeartbeats 4000000
set_option linter.unusedSimpArgs false
set_option linter.unusedVariables false
theorem lives_chk : checkS [40, 40, 97, 41, 41, 94, 50, 94, 51] = .inl 4 := by kernel_rfl
theorem lives_scanP : scanL [43, 97] = ([⟨15, [], 0, 0, 1⟩, ⟨1, [97], 0, 1, 2⟩, ⟨0, [], 0, 2, 2⟩], none) := by kernel_rfl
theorem lives_chkP : checkS [43, 97] = .inl 0 := by kernel_rfl
theorem livesD : D .list [⟨15, [], 0, 0, 1⟩, ⟨1, [97], 0, 1, 2⟩] 0 (fun f => ((fun f => [(0, ndLeaf 1 f [97] 0)]) f).map fun x => ((if (15 : Int) = 15 then 1 else 2 : Int), x.2)) :=
 D.one (D.sign (s := ⟨15, [], 0, 0, 1⟩) (A := [⟨1, [97], 0, 1, 2⟩]) (.inl rfl) (D.pieceU (D.atomP (D.bodyA (D.leafB (D.word (t := ⟨1, [97], 0, 1, 2⟩) rfl))))))
theorem errAt15 {W : World} {ea : List Addr} (h : ErrEnv W ea) : ErrAt W 0 (errI ea 15) :=
 ⟨h.cell 15 (by omega), World.block_lt_of_cell? W ⟨0, 0, none⟩ (h.cell 15 (by omega))⟩
theorem slives_at (w : World) (ea : List Addr) (n : Nat) (hE : ErrAt w 0 (errI ea n)) (hc : ClsEnv w) :
  Calls Tryd.prog 14 #[] w fun e w' => e = .returned (.bool true) ∧ Below w.heap.size w w' := by
 have HC1 := LH (scheck_any ⟨#[40, 40, 97, 41, 41, 94, 50, 94, 51]⟩ w ea n (by decide) hc hE)
 have HPR := LH (fun (W : World) (hW : Below w.heap.size w W) => pparse_ok ⟨#[43, 97]⟩ W ea n (by decide) (hc.belowB hc.2 hW) (hE.below hE.2 hW) _ 0 lives_scanP lives_chkP (by decide)
  ⟨by decide, fun t ht => by
   simp only [List.map_cons, List.map_nil, List.mem_cons, List.not_mem_nil, or_false] at ht
   rcases ht with rfl | rfl | rfl
   ·exact ⟨fun h => absurd h (by decide), by decide⟩
   ·exact ⟨fun h => absurd h (by decide), by decide⟩
   ·exact ⟨fun h => absurd h (by decide), by decide⟩⟩ [⟨15, [], 0, 0, 1⟩, ⟨1, [97], 0, 1, 2⟩] ⟨0, [], 0, 2, 2⟩ 0 _ rfl rfl livesD)
 clear hE hc
 go_enter Tryd.func14, Tryd.ntmps14
 go_wp2_with fail
 refine HC1.out.mono ?_
 rintro e w1 ⟨hb1, he⟩
 rw [show checkS (⟨#[40, 40, 97, 41, 41, 94, 50, 94, 51]⟩ : ByteArray).data.toList = _ from lives_chk] at he
 subst he
 simp only []
 have HB1 := LH hb1
 clear hb1
 go_wp2_with fail
 refine (HPR.out w1 HB1.out).mono ?_
 rintro e w2 ⟨hb2, x, rfl, hx⟩
 have HB2 := LH (HB1.out.trans (hb2.mono HB1.out.size))
 clear hb2
 have hx2 : NdR w2 (rng w1.heap.size w2.heap.size) x (.mk 9 [] [] 0 bd0 bd0 [1] [ndLeaf 1 [] [97] 0]) := hx
 clear hx
 rcases hx2 with ⟨h1, h2, h3, h4⟩
 rename_i so sk nl
 obtain ⟨y, rfl⟩ := List.length_eq_one_iff.1 h3
 have hy := h4 0 y _ rfl rfl
 have hyt : y.text = [97] := by rcases hy with ⟨_, _, _, _⟩; rfl
 obtain ⟨oa, on, oc⟩ := so
 obtain ⟨ka, kn, kc⟩ := sk
 have hon : on = 1 := h1.1
 have hkn : kn = 1 := h2.1
 subst hon hkn
 obtain ⟨b, rfl, hbF, hbl, hc0, hcc⟩ := h2.nd0
 have hct := hcc 1 (.string (str y.text)) rfl
 rw [hyt] at hct
 have HCT := LH hct
 clear h1 h2 h3 h4 hy hyt hc0 hcc hct hbF
 have d2 : w2.cell? ⟨b.block, b.off + 2, none⟩ = some (.string ⟨#[97]⟩) := HCT.out
 unfold NV.val
 simp only []
 go_wp2
 go_ret
 exact ⟨rfl, HB2.out.alloc HB2.out.size _⟩
end Go.Proofs.YtcomdkejpaoneaaDoor
end
section
namespace Go.Proofs.YtcomdkejpaoneaaDoor
open Go.RowKit
set_option maxRecDepth 100000
set_option maxHeartbeats 4000000
set_option linter.unusedSimpArgs false
set_option linter.unusedVariables false
theorem parse_der {s : ByteArray} {n : Nat} {t : Nd} (h : Der s.data.toList n t) (hn : n ≤ 64) (w : World) (ea : List Addr) (ei : Nat) (hs : s.size ≤ 10000000) (hE : ClsEnv w) (hv : ErrAt w 0 (errI ea ei)) :
  Calls Tryd.prog 18 #[.string s] w (ParRet t w) := by
 have hc := h.check
 obtain ⟨la, A, e, v, hs1, hA, he, hD, rfl⟩ := h.toks
 exact pparse_ok s w ea ei hs hE hv la n hs1 hc hn (scan_tkok hs1 (by rw [← ba_size]; exact hs)) A e n v hA he hD
theorem Der.le {l : List UInt8} {n : Nat} {t : Nd} (h : Der l n t) : n ≤ l.length := by
 obtain ⟨la, A, e, v, hs, hA, he, hD, _⟩ := h.toks
 have h1 := hD.nest_le
 have h2 := scanL_count l
 rw [hs] at h2
 have h3 := congrArg List.length hA
 rw [List.length_map, List.length_append, List.length_singleton] at h3
 simp only [] at h2
 omega
end Go.Proofs.YtcomdkejpaoneaaDoor
end
section
namespace Go.Proofs.YtcomdkejpaoneaaDoor
open Go.RowKit
set_option maxRecDepth 100000
def clsLit : List Int := [0, 0, 0, 0, 0, 0, 0, 0, 0, 1, 1, 0, 0, 1, 0, 0, 0, 0, 0, 0, 0, 0, 0, 0, 0, 0, 0, 0, 0, 0, 0, 0, 1, 0, 2, 0, 0, 0, 0, 0, 2, 2, 3, 0, 0, 0, 0, 0, 0, 0, 0, 0, 0, 0, 0, 0, 0, 0, 2, 0, 0, 0, 0, 3, 2, 0, 0, 0, 0, 0, 0, 0, 0, 0, 0, 0, 0, 0, 0, 0, 0, 0, 0, 0, 0, 0, 0, 0, 0, 0, 0, 2, 4, 2, 2, 0, 0, 0, 0, 0, 0, 0, 0, 0, 0, 0, 0, 0, 0, 0, 0, 0, 0, 0, 0, 0, 0, 0, 0, 0, 0, 0, 0, 2, 2, 2, 2, 0]
theorem clsLit_eq : clsLit = clsTab := by decide
theorem gTab : Tryd.prog.globalNamed "concord/lexer.classes" = some 24 := by kernel_rfl
theorem gTabType : (Tryd.prog.globals[24]?).map (·.type) = some 117 := by kernel_rfl
theorem cellsTab : Tryd.prog.cellsOf 117 = 128 := by kernel_rfl
theorem cellsByte : Tryd.prog.cellsOf 5 = 1 := by kernel_rfl
theorem size_of_cell {w : World} {b o : Nat} {v : Value} (h : w.cell? ⟨b, o, none⟩ = some v) : b < w.heap.size := World.block_lt_of_cell? w ⟨b, o, none⟩ h
theorem cls_of_head {W : World} {rest : List (String × DataW Unit)} (h : laidMet Tryd.prog (("concord/lexer.classes", Rows.laid_concord_lexer_classes) :: rest) W) : ClsEnv W := by
 have ht : Lib.TabIs Tryd.prog W "concord/lexer.classes" .u8 clsLit := Lib.tabIs_of_head (rest := rest) gTab gTabType Tryd.underlying117 Tryd.underlying5 cellsByte cellsTab h
 have hc : ∀ j, j < 128 → W.cell? ⟨24, j, none⟩ = some (.int .u8 (clsTab.getD j 0)) := fun j hj => by
  rw [← clsLit_eq]; exact ht.cell gTab j (by rw [show clsLit.length = 128 from by decide]; exact hj)
 exact ⟨hc, size_of_cell (hc 0 (by decide))⟩
end Go.Proofs.YtcomdkejpaoneaaDoor
end
section
namespace Go.Proofs.YtcomdkejpaoneaaDoor
open Go.RowKit
set_option maxRecDepth 100000
set_option maxHeartbeats 8000000
set_option linter.unusedSimpArgs false
set_option linter.unusedVariables false
theorem str_nil : str [] = ⟨#[]⟩ := rfl
end Go.Proofs.YtcomdkejpaoneaaDoor
end
section
namespace Go.Proofs.YtcomdkejpaoneaaDoor
set_option maxRecDepth 100000
set_option linter.unusedSimpArgs false
set_option linter.unusedVariables false
def Nd.kind : Nd → Int
 | .mk k _ _ _ _ _ _ _ => k
end Go.Proofs.YtcomdkejpaoneaaDoor
end
section
namespace Go.Proofs.YtcomdkejpaoneaaDoor
open Go.RowKit
set_option maxRecDepth 100000
set_option maxHeartbeats 8000000
set_option linter.unusedSimpArgs false
set_option linter.unusedVariables false
theorem errAt16 {W : World} {ea : List Addr} (h : ErrEnv W ea) : ErrAt W 16 (errI ea 16) :=
 ⟨h.cell 16 (by omega), World.block_lt_of_cell? W ⟨16, 0, none⟩ (h.cell 16 (by omega))⟩
theorem nd0_rd (w : World) : NdR w (fun _ => True) ⟨0, [], [], 0, bd0, bd0, ⟨none, 0, 0⟩, ⟨none, 0, 0⟩⟩ nd0 := .mk (RdF.nil _ _ _) (RdF.nil _ _ _) rfl (fun i x t h => by simp at h)
def nvN : NV := ⟨0, [], [], 0, bd0, bd0, ⟨none, 0, 0⟩, ⟨none, 0, 0⟩⟩
theorem same_none0 (w : World) : Calls Tryd.prog 20 #[nvN.val, nvN.val] w (SamRet w) := same_all nd0 w (fun _ => True) (fun _ => True) nvN nvN (nd0_rd w) (nd0_rd w)
theorem nvN_val : nvN.val = .agg nv0 := by unfold nvN NV.val nv0 bd0; simp only [str_nil]
theorem same_none (w : World) : Calls Tryd.prog 20 #[.agg nv0, .agg nv0] w (SamRet w) := by
 have h := same_none0 w
 rw [nvN_val] at h
 exact h
end Go.Proofs.YtcomdkejpaoneaaDoor
end
section
namespace Go.Proofs.YtcomdkejpaoneaaDoor
open Go.RowKit
set_option maxRecDepth 100000
set_option maxHeartbeats 1000000
set_option linter.unusedSimpArgs false
set_option linter.unusedVariables false
theorem rbracket_any (k : Int) (w : World) : Calls Tryd.prog 102 #[.int .i64 k] w fun e w' => e = .returned (.int .i64 (brk k)) ∧ w = w' := by
 by_cases h8 : k = 8
 ·subst h8
  go_enter Tryd.func102, Tryd.ntmps102
  go_wp2
  go_ret
  exact ⟨rfl, rfl⟩
 by_cases h10 : k = 10
 ·subst h10
  go_enter Tryd.func102, Tryd.ntmps102
  go_wp2
  go_ret
  exact ⟨rfl, rfl⟩
 by_cases h12 : k = 12
 ·subst h12
  go_enter Tryd.func102, Tryd.ntmps102
  go_wp2
  go_ret
  exact ⟨rfl, rfl⟩
 by_cases h9 : k = 9
 ·subst h9
  go_enter Tryd.func102, Tryd.ntmps102
  go_wp2
  go_ret
  exact ⟨rfl, rfl⟩
 by_cases h11 : k = 11
 ·subst h11
  go_enter Tryd.func102, Tryd.ntmps102
  go_wp2
  go_ret
  exact ⟨rfl, rfl⟩
 by_cases h13 : k = 13
 ·subst h13
  go_enter Tryd.func102, Tryd.ntmps102
  go_wp2
  go_ret
  exact ⟨rfl, rfl⟩
 have hv : brk k = 0 := by unfold brk; simp [h8, h10, h12, h9, h11, h13]
 rw [hv]
 have e8 : ((k : Int) == 8) = false := by simpa using h8
 have e10 : ((k : Int) == 10) = false := by simpa using h10
 have e12 : ((k : Int) == 12) = false := by simpa using h12
 have e9 : ((k : Int) == 9) = false := by simpa using h9
 have e11 : ((k : Int) == 11) = false := by simpa using h11
 have e13 : ((k : Int) == 13) = false := by simpa using h13
 clear hv h8 h10 h12 h9 h11 h13
 go_enter Tryd.func102, Tryd.ntmps102
 go_wp2
 go_ret
 exact ⟨rfl, rfl⟩
theorem rbegins_any (k : Int) (w : World) : Calls Tryd.prog 100 #[.int .i64 k] w fun e w' => e = .returned (.bool (begK k)) ∧ w = w' := by
 by_cases h1 : k = 1
 ·subst h1
  go_enter Tryd.func100, Tryd.ntmps100
  go_wp2
  go_ret
  exact ⟨rfl, rfl⟩
 by_cases h2 : k = 2
 ·subst h2
  go_enter Tryd.func100, Tryd.ntmps100
  go_wp2
  go_ret
  exact ⟨rfl, rfl⟩
 by_cases h3 : k = 3
 ·subst h3
  go_enter Tryd.func100, Tryd.ntmps100
  go_wp2
  go_ret
  exact ⟨rfl, rfl⟩
 by_cases h6 : k = 6
 ·subst h6
  go_enter Tryd.func100, Tryd.ntmps100
  go_wp2
  go_ret
  exact ⟨rfl, rfl⟩
 by_cases h8 : k = 8
 ·subst h8
  go_enter Tryd.func100, Tryd.ntmps100
  go_wp2
  go_ret
  exact ⟨rfl, rfl⟩
 by_cases h10 : k = 10
 ·subst h10
  go_enter Tryd.func100, Tryd.ntmps100
  go_wp2
  go_ret
  exact ⟨rfl, rfl⟩
 by_cases h12 : k = 12
 ·subst h12
  go_enter Tryd.func100, Tryd.ntmps100
  go_wp2
  go_ret
  exact ⟨rfl, rfl⟩
 by_cases h15 : k = 15
 ·subst h15
  go_enter Tryd.func100, Tryd.ntmps100
  go_wp2
  go_ret
  exact ⟨rfl, rfl⟩
 by_cases h16 : k = 16
 ·subst h16
  go_enter Tryd.func100, Tryd.ntmps100
  go_wp2
  go_ret
  exact ⟨rfl, rfl⟩
 have hv : begK k = false := by unfold begK; simp [h1, h2, h3, h6, h8, h10, h12, h15, h16]
 rw [hv]
 have e1 : ((k : Int) == 1) = false := by simpa using h1
 have e2 : ((k : Int) == 2) = false := by simpa using h2
 have e3 : ((k : Int) == 3) = false := by simpa using h3
 have e6 : ((k : Int) == 6) = false := by simpa using h6
 have e8 : ((k : Int) == 8) = false := by simpa using h8
 have e10 : ((k : Int) == 10) = false := by simpa using h10
 have e12 : ((k : Int) == 12) = false := by simpa using h12
 have e15 : ((k : Int) == 15) = false := by simpa using h15
 have e16 : ((k : Int) == 16) = false := by simpa using h16
 clear hv h1 h2 h3 h6 h8 h10 h12 h15 h16
 go_enter Tryd.func100, Tryd.ntmps100
 go_wp2
 go_ret
 exact ⟨rfl, rfl⟩
theorem rends_any (k : Int) (w : World) : Calls Tryd.prog 101 #[.int .i64 k] w fun e w' => e = .returned (.bool (endK k)) ∧ w = w' := by
 by_cases h1 : k = 1
 ·subst h1
  go_enter Tryd.func101, Tryd.ntmps101
  go_wp2
  go_ret
  exact ⟨rfl, rfl⟩
 by_cases h2 : k = 2
 ·subst h2
  go_enter Tryd.func101, Tryd.ntmps101
  go_wp2
  go_ret
  exact ⟨rfl, rfl⟩
 by_cases h3 : k = 3
 ·subst h3
  go_enter Tryd.func101, Tryd.ntmps101
  go_wp2
  go_ret
  exact ⟨rfl, rfl⟩
 by_cases h9 : k = 9
 ·subst h9
  go_enter Tryd.func101, Tryd.ntmps101
  go_wp2
  go_ret
  exact ⟨rfl, rfl⟩
 by_cases h11 : k = 11
 ·subst h11
  go_enter Tryd.func101, Tryd.ntmps101
  go_wp2
  go_ret
  exact ⟨rfl, rfl⟩
 by_cases h13 : k = 13
 ·subst h13
  go_enter Tryd.func101, Tryd.ntmps101
  go_wp2
  go_ret
  exact ⟨rfl, rfl⟩
 by_cases h18 : k = 18
 ·subst h18
  go_enter Tryd.func101, Tryd.ntmps101
  go_wp2
  go_ret
  exact ⟨rfl, rfl⟩
 by_cases h19 : k = 19
 ·subst h19
  go_enter Tryd.func101, Tryd.ntmps101
  go_wp2
  go_ret
  exact ⟨rfl, rfl⟩
 by_cases h20 : k = 20
 ·subst h20
  go_enter Tryd.func101, Tryd.ntmps101
  go_wp2
  go_ret
  exact ⟨rfl, rfl⟩
 by_cases h21 : k = 21
 ·subst h21
  go_enter Tryd.func101, Tryd.ntmps101
  go_wp2
  go_ret
  exact ⟨rfl, rfl⟩
 have hv : endK k = false := by unfold endK; simp [h1, h2, h3, h9, h11, h13, h18, h19, h20, h21]
 rw [hv]
 have e1 : ((k : Int) == 1) = false := by simpa using h1
 have e2 : ((k : Int) == 2) = false := by simpa using h2
 have e3 : ((k : Int) == 3) = false := by simpa using h3
 have e9 : ((k : Int) == 9) = false := by simpa using h9
 have e11 : ((k : Int) == 11) = false := by simpa using h11
 have e13 : ((k : Int) == 13) = false := by simpa using h13
 have e18 : ((k : Int) == 18) = false := by simpa using h18
 have e19 : ((k : Int) == 19) = false := by simpa using h19
 have e20 : ((k : Int) == 20) = false := by simpa using h20
 have e21 : ((k : Int) == 21) = false := by simpa using h21
 clear hv h1 h2 h3 h9 h11 h13 h18 h19 h20 h21
 go_enter Tryd.func101, Tryd.ntmps101
 go_wp2
 go_ret
 exact ⟨rfl, rfl⟩
end Go.Proofs.YtcomdkejpaoneaaDoor
end
section
namespace Go.Proofs.YtcomdkejpaoneaaDoor
open Go.RowKit
set_option maxRecDepth 100000
set_option maxHeartbeats 1000000
set_option linter.unusedSimpArgs false
set_option linter.unusedVariables false
theorem ltSize : Tryd.prog.underlying 42 = some (.slice (Tryd.prog.elem 42)) := by kernel_rfl
theorem ltSizeOf (W : World) : (sizeOf (Tryd.prog.elem 42)).run Tryd.prog W = .ok 5 W := by kernel_rfl
def pc (ts : List Lt) (i j : Nat) : List Lt := (ts.drop i).take (j - i)
theorem pc_length {ts : List Lt} {i j : Nat} (h : i ≤ j) (h2 : j ≤ ts.length) : (pc ts i j).length = j - i := by
 unfold pc; rw [List.length_take, List.length_drop]; omega
theorem rdl_piece {w : World} {B : Nat} {A : Option Addr} {n cap : Nat} {ts : List Lt} (h : RdL ltS w B (.slice A n cap) ts) {i j : Nat} (hij : i ≤ j) (hj : j ≤ ts.length) :
  RdL ltS w B (.slice (if cap = i then A else A.map (·.add (i * 5))) (j - i) (cap - i)) (pc ts i j) := by
 obtain ⟨A', cap', e, h1, h2, h3, h4⟩ := h
 injection e with e1 e2 e3
 subst e1 e2 e3
 refine ⟨_, _, by rw [pc_length hij hj], by rw [pc_length hij hj]; omega, by omega, fun hn => ?_, fun hA => ?_⟩
 ·rw [pc_length hij hj] at hn
  obtain ⟨a, e, hb, hc⟩ := h3 (by omega)
  subst e
  rw [if_neg (show ¬ cap = i from by omega)]
  refine ⟨_, rfl, by rw [block_of_add]; exact hb, fun k u hu => ?_⟩
  rw [add_of_add]
  refine hc _ u ?_
  have hk : k < (ltS.cells (pc ts i j)).length := (List.getElem?_eq_some_iff.1 hu).1
  rw [Shape.cells_length ltOk, pc_length hij hj] at hk
  have e1 : ltS.cells ts = ltS.cells (ts.take i) ++ (ltS.cells (pc ts i j) ++ ltS.cells (ts.drop j)) := by
   rw [← Shape.cells_append, ← Shape.cells_append]
   congr 1
   have e2 : ts.drop j = (ts.drop i).drop (j - i) := by
    have hji : i + (j - i) = j := Nat.add_sub_cancel' hij
    rw [List.drop_drop, hji]
   unfold pc
   rw [e2, List.take_append_drop, List.take_append_drop]
  have hl : (ltS.cells (ts.take i)).length = i * 5 := by rw [Shape.cells_length ltOk, List.length_take, Nat.min_eq_left (by omega)]; rfl
  rw [e1, List.getElem?_append_right (by omega), hl, Nat.add_sub_cancel_left, List.getElem?_append_left (by rw [Shape.cells_length ltOk, pc_length hij hj]; exact hk)]
  exact hu
 ·by_cases hc : cap = i
  ·rw [if_pos hc] at hA; rw [h4 hA]; omega
  ·rw [if_neg hc] at hA
   cases A with
   | none => rw [h4 rfl]; omega
   | some a => cases hA
theorem lt_cut {w : World} {B : Nat} {A : Option Addr} {n cap : Nat} {ts : List Lt} (h : RdL ltS w B (.slice A n cap) ts) {i j : Nat} (hij : i ≤ j) (hj : j ≤ ts.length) :
  ∃ pa pq, RdL ltS w B (.slice pa (j - i) pq) (pc ts i j) ∧ (∀ W, (Instr.slice 42 (.slice A n cap) (some (.int .i64 (i : Int))) (some (.int .i64 (j : Int))) none).run Tryd.prog W = .ok (.slice pa (j - i) pq) W) := by
 have hp := rdl_piece h hij hj
 obtain ⟨A', cap', e, h1, h2, h3, h4⟩ := h
 injection e with e1 e2 e3
 subst e1 e2 e3
 refine ⟨_, _, hp, fun W => ?_⟩
 rw [run_slice_lh (ht := ltSize) (h0 := (by omega : (0 : Int) ≤ (i : Int))) (h1 := (by omega : (i : Int) ≤ (j : Int))) (h2 := by omega), ltSizeOf]
 simp [Result.andThen, sliced]
theorem lt_from {w : World} {B : Nat} {A : Option Addr} {n cap : Nat} {ts : List Lt} (h : RdL ltS w B (.slice A n cap) ts) {i : Nat} (hi : i ≤ ts.length) :
  ∃ pa pq, RdL ltS w B (.slice pa (ts.length - i) pq) (ts.drop i) ∧ (∀ W, (Instr.slice 42 (.slice A n cap) (some (.int .i64 (i : Int))) none none).run Tryd.prog W = .ok (.slice pa (ts.length - i) pq) W) := by
 have hp := rdl_piece h hi (Nat.le_refl _)
 have e0 : pc ts i ts.length = ts.drop i := by unfold pc; exact List.take_of_length_le (by rw [List.length_drop]; omega)
 rw [e0] at hp
 obtain ⟨A', cap', e, h1, h2, h3, h4⟩ := h
 injection e with e1 e2 e3
 subst e1 e2 e3
 refine ⟨_, _, hp, fun W => ?_⟩
 rw [run_slice_l (ht := ltSize) (h0 := (by omega : (0 : Int) ≤ (i : Int))) (h1 := by omega), ltSizeOf]
 simp [Result.andThen, sliced]
theorem lt_upto {w : World} {B : Nat} {A : Option Addr} {n cap : Nat} {ts : List Lt} (h : RdL ltS w B (.slice A n cap) ts) {j : Nat} (hj : j ≤ ts.length) :
  ∃ pq, RdL ltS w B (.slice A j pq) (ts.take j) ∧ (∀ W, (Instr.slice 42 (.slice A n cap) none (some (.int .i64 (j : Int))) none).run Tryd.prog W = .ok (.slice A j pq) W) := by
 have hp := rdl_piece h (Nat.zero_le _) hj
 have e0 : pc ts 0 j = ts.take j := by unfold pc; simp
 rw [e0] at hp
 obtain ⟨A', cap', e, h1, h2, h3, h4⟩ := h
 injection e with e1 e2 e3
 subst e1 e2 e3
 refine ⟨cap, ?_, fun W => ?_⟩
 ·by_cases hc : cap = 0
  ·rw [if_pos hc] at hp; simpa using hp
  ·rw [if_neg hc] at hp
   have e : A.map (·.add (0 * 5)) = A := by
    cases A with
    | none => rfl
    | some a => simp [Addr.add]
   rw [e] at hp; simpa using hp
 ·rw [run_slice_h (ht := ltSize) (h0 := (by omega : (0 : Int) ≤ (j : Int))) (h2 := by omega), ltSizeOf]
  have e : A.map (fun x => x.add 0) = A := by
   cases A with
   | none => rfl
   | some a => simp [Addr.add]
  simp [Result.andThen, sliced, e]
def slS : Shape Sl := { tS := 126, tE := 42, size := 1, bytes := 24, enc := fun s => [.slice s.a s.n s.c], zero := .slice none 0 0 }
theorem slOk : slS.Ok where
 under := Tryd.underlying126
 info := by kernel_rfl
 zs := rfl
 pos := by decide
 len := fun _ => rfl
 one := fun x u hu => by
  simp only [slS, List.mem_cons, List.not_mem_nil, or_false] at hu
  subst hu; rfl
 small := by decide
def Pcs (w : World) (B : Nat) (ts : List Lt) (sls : List Sl) (rs : List (Nat × Nat)) : Prop :=
 sls.length = rs.length ∧ ∀ (i : Nat) (s : Sl) (r : Nat × Nat), sls[i]? = some s → rs[i]? = some r → s.n = r.2 - r.1 ∧ RdL ltS w B (.slice s.a s.n s.c) (pc ts r.1 r.2)
theorem Pcs.nil (w : World) (B : Nat) (ts : List Lt) : Pcs w B ts [] [] := ⟨rfl, fun i s r h => by simp at h⟩
theorem Pcs.snoc {w : World} {B : Nat} {ts : List Lt} {sls : List Sl} {rs : List (Nat × Nat)} {s : Sl} {r : Nat × Nat} (h : Pcs w B ts sls rs) (hn : s.n = r.2 - r.1) (hr : RdL ltS w B (.slice s.a s.n s.c) (pc ts r.1 r.2)) : Pcs w B ts (sls ++ [s]) (rs ++ [r]) := by
 refine ⟨by rw [List.length_append, List.length_append, h.1]; rfl, fun i x y hx hy => ?_⟩
 by_cases hi : i < sls.length
 ·rw [List.getElem?_append_left hi] at hx
  rw [List.getElem?_append_left (by rw [← h.1]; exact hi)] at hy
  exact h.2 i x y hx hy
 ·rw [List.getElem?_append_right (by omega)] at hx
  rw [List.getElem?_append_right (by rw [← h.1]; omega), ← h.1] at hy
  obtain ⟨k, hk⟩ : ∃ k, k = i - sls.length := ⟨_, rfl⟩
  rw [← hk] at hx hy
  cases k with
  | zero => simp only [List.getElem?_cons_zero, Option.some.injEq] at hx hy; subst hx hy; exact ⟨hn, hr⟩
  | succ k => simp at hx
theorem Pcs.belowW {w w' : World} {B : Nat} {ts : List Lt} {sls : List Sl} {rs : List (Nat × Nat)} (h : Pcs w B ts sls rs) (hB : B ≤ w.heap.size) (hb : Below w.heap.size w w') : Pcs w' B ts sls rs :=
 ⟨h.1, fun i s r hs hr => ⟨(h.2 i s r hs hr).1, (h.2 i s r hs hr).2.belowW hB hb⟩⟩
end Go.Proofs.YtcomdkejpaoneaaDoor
end
section
namespace Go.Proofs.YtcomdkejpaoneaaDoor
open Go.RowKit
set_option maxRecDepth 100000
set_option maxHeartbeats 4000000
set_option linter.unusedSimpArgs false
set_option linter.unusedVariables false
def CutRet (ts : List Lt) (rs : List (Nat × Nat)) (B : Nat) (w : World) (e : Ending) (w' : World) : Prop :=
 Below w.heap.size w w' ∧ ∃ (v : Value) (sls : List Sl), e = .returned v ∧ OwnL slS w' w.heap.size v sls ∧ Pcs w' B ts sls rs
theorem brk_bd (k : Int) : -1 ≤ brk k ∧ brk k ≤ 1 := by unfold brk; split; exact ⟨by decide, by decide⟩; split <;> exact ⟨by decide, by decide⟩
theorem cutI_len (m : Int) (l : List Lt) : ∀ i f d, (cutI m i f d l).length ≤ l.length + 1 := by
 induction l with
 | nil => intro i f d; simp [cutI]
 | cons t r ih =>
  intro i f d
  rw [cutI]
  split
  ·have := ih (i + 1) (i + 1) (d + brk t.kind); simp; omega
  ·have := ih (i + 1) f (d + brk t.kind); simp; omega
theorem Pcs.low {w w' : World} {B : Nat} {ts : List Lt} {sls : List Sl} {rs : List (Nat × Nat)} (h : Pcs w B ts sls rs) (hb : Below B w w') : Pcs w' B ts sls rs :=
 ⟨h.1, fun i s r hs hr => ⟨(h.2 i s r hs hr).1, (h.2 i s r hs hr).2.below hb⟩⟩
def CutRel (ts : List Lt) (m : Int) (B : Nat) (w : World) (iv ov dv fv : Value) (wr : World) : Prop :=
 ∃ (i f : Nat) (d : Int) (sls : List Sl) (done : List (Nat × Nat)), i ≤ ts.length ∧ f ≤ i ∧ -(i : Int) ≤ d ∧ d ≤ (i : Int) ∧ iv = .int .i64 (i : Int) ∧ dv = .int .i64 d ∧ fv = .int .i64 (f : Int) ∧ OwnL slS wr w.heap.size ov sls ∧ Pcs wr B ts sls done ∧
  cutI m 0 0 0 ts = done ++ cutI m i f d (ts.drop i) ∧ done.length ≤ i ∧ Below w.heap.size w wr
theorem rcut_any (ts : List Lt) (m : Int) (w : World) (B : Nat) (A : Option Addr) (n cap : Nat) (h : RdL ltS w B (.slice A n cap) ts) (hB : B ≤ w.heap.size) (hl : ts.length ≤ 100000000) :
  Calls Tryd.prog 104 #[.slice A n cap, .int .i64 m] w (CutRet ts (cutI m 0 0 0 ts) B w) := by
 obtain ⟨A', cap', e, hc1, hc2⟩ := h.open_
 injection e with e1 e2 e3
 subst e1 e2 e3
 have HR := LH h; have HBW := LH hB
 clear h hB
 have HO1 := LH (show OwnL slS (w.alloc (.cells #[] 42)) w.heap.size (.slice (some ⟨w.heap.size, 0, none⟩) 0 0) [] from OwnL.lit0 slS w (Nat.le_refl _))
 have HB1 := LH (show Below w.heap.size w (w.alloc (.cells #[] 42)) from (Below.refl _ _).alloc (Nat.le_refl _) _)
 go_enter Tryd.func104, Tryd.ntmps104
 go_wp2
 generalize w.alloc (.cells #[] 42) = w1 at *
 go_loopw [13, 5, 6, 7] (fun iv ov dv fv wr => CutRel ts m B w iv ov dv fv wr) (fun iv _ _ _ _ => ts.length - (intOf iv).toNat)
 case atStart => exact ⟨0, 0, 0, [], [], Nat.zero_le _, Nat.le_refl _, by decide, by decide, rfl, rfl, rfl, HO1.out, Pcs.nil _ _ _, rfl, Nat.zero_le _, HB1.out⟩
 case round =>
  obtain ⟨i, f, d, sls, done, hi, hf, hd1, hd2, rfl, rfl, rfl, ho, hp, hcut, hdl, hb⟩ := hrel
  have HO := LH ho; have HP := LH hp; have HC := LH hcut; have HB := LH hb; have HDL := LH hdl
  have HRR := LH (HR.out.belowW HBW.out hb)
  have hsl := hp.1
  have HSL := LH hsl
  have hBr := hb.size
  obtain ⟨OA, oc, rfl, -, -⟩ := ho.form
  clear ho hp hcut hb hsl hdl HO1 HB1
  by_cases hlt : i < ts.length
  ·obtain ⟨a, rfl, hab, c0, c1, c2, c3, c4⟩ := at_lt HRR.out hlt
   have HD := LH (List.drop_eq_getElem_cons hlt)
   have hbk := brk_bd ts[i].kind
   obtain ⟨pa, pq, hpr, hrun⟩ := lt_cut HRR.out hf (Nat.le_of_lt hlt)
   have HPR := LH hpr
   clear hpr
   generalize hT : ts[i] = t at *
   clear hT
   obtain ⟨k, tx, tn, ta, te⟩ := t
   simp only [] at c0 c1 c2 c3 c4 hbk
   have HBX := LH (HB.out.alloc hBr (.cells #[.int .i64 k, .string (str tx), .int .i64 tn, .int .i64 ta, .int .i64 te] 49))
   have HOX := LH (HO.out.alloc (.cells #[.int .i64 k, .string (str tx), .int .i64 tn, .int .i64 ta, .int .i64 te] 49))
   have HPX := LH (HP.out.belowW (Nat.le_trans HBW.out hBr) ((Below.refl wr.heap.size wr).alloc (Nat.le_refl _) (.cells #[.int .i64 k, .string (str tx), .int .i64 tn, .int .i64 ta, .int .i64 te] 49)))
   have HPRX := LH (HPR.out.belowW (Nat.le_trans HBW.out hBr) ((Below.refl wr.heap.size wr).alloc (Nat.le_refl _) (.cells #[.int .i64 k, .string (str tx), .int .i64 tn, .int .i64 ta, .int .i64 te] 49)))
   have HTX := LH (Blk.new wr 49 #[.int .i64 k, .string (str tx), .int .i64 tn, .int .i64 ta, .int .i64 te])
   go_wp2_with fail
   generalize wr.alloc (.cells #[.int .i64 k, .string (str tx), .int .i64 tn, .int .i64 ta, .int .i64 te] 49) = w5 at *
   refine (rbracket_any k w5).mono ?_
   rintro e w6 ⟨rfl, rfl⟩
   have hsz5 := HBX.out.size
   clear c0 c1 c2 c3 c4
   have t0 := HTX.out.cell 0
   simp only [List.getElem?_toArray, List.getElem?_cons_zero, List.getElem?_cons_succ] at t0
   have hdn : -100000000 ≤ d ∧ d ≤ 100000000 := by omega
   have HD12 := LH (And.intro hd1 hd2)
   have HBK := LH hbk
   clear hd1 hd2
   have HLB := LH (show sls.length + 1 ≤ 100000000000 from by have := HSL.out; have := HDL.out; omega)
   have hyes : ∀ W v', OwnL slS W w.heap.size v' (sls ++ [⟨pa, i - f, pq⟩]) → Below w.heap.size w5 W → d + brk k = 0 → k = m → CutRel ts m B w (.int .i64 ((i + 1 : Nat) : Int)) v' (.int .i64 0) (.int .i64 ((i + 1 : Nat) : Int)) W := by
    intro W v' h1 h2 hz hk
    refine ⟨i + 1, i + 1, 0, _, done ++ [(f, i)], hlt, Nat.le_refl _, by omega, by omega, rfl, rfl, rfl, h1, ?_, ?_, by rw [List.length_append, List.length_singleton]; have := HDL.out; omega, HBX.out.trans h2⟩
    ·exact Pcs.low ((HPX.out).snoc (s := ⟨pa, i - f, pq⟩) (r := (f, i)) rfl HPRX.out) (h2.mono HBW.out)
    ·rw [HC.out, HD.out, cutI, if_pos ⟨hz, hk⟩, hz, List.append_assoc]; rfl
   have hno : (d + brk k ≠ 0 ∨ k ≠ m) → CutRel ts m B w (.int .i64 ((i + 1 : Nat) : Int)) (.slice OA sls.length oc) (.int .i64 (d + brk k)) (.int .i64 (f : Int)) w5 := by
    intro hz
    refine ⟨i + 1, f, d + brk k, _, done, hlt, by omega, by have := HD12.out; have := HBK.out; omega, by have := HD12.out; have := HBK.out; omega, rfl, rfl, rfl, HOX.out, HPX.out, ?_, by have := HDL.out; omega, HBX.out⟩
    rw [HC.out, HD.out, cutI, if_neg]
    rintro ⟨e1, e2⟩
    rcases hz with hz | hz
    ·exact hz e1
    ·exact hz e2
   have HY := LH hyes; have HN := LH hno
   clear hyes hno hBr hsz5
   have hsz6 := HBX.out.size
   have e9 : ((i + 1 : Nat) : Int) = (i : Int) + 1 := by omega
   have E9 := LH e9
   clear e9
   by_cases hz : d + brk k = 0
   ·have HZ := LH hz
    by_cases hk : k = m
    ·have k1 : (k == m) = true := by rw [hk]; simp
     have HK := LH hk
     clear hk
     go_wp2_with (at_builtin; refine OwnL.appendL slOk HOX.out ⟨pa, i - f, pq⟩ w5.heap.size rfl _ _ rfl rfl rfl #[.slice pa (i - f) pq] rfl rfl hsz6 HLB.out ?_; intro v' w' h2 h3 h3k h4; have H2 := LH (HY.out w' v' h2 h3 HZ.out HK.out); clear h2 h3 h3k h4)
     go_roundw
     case rel => rw [← E9.out]; exact H2.out
     case measure => simp [intOf]; omega
    ·have k1 : (k == m) = false := by simpa using hk
     have HR2 := LH (HN.out (.inr hk))
     rw [hz] at HR2
     clear hk
     go_wp2
     go_roundw
     case rel => rw [← E9.out]; exact HR2.out
     case measure => simp [intOf]; omega
   ·have z1 : (d + brk k == 0) = false := by simpa using hz
    have HR2 := LH (HN.out (.inl hz))
    clear hz
    go_wp2
    go_roundw
    case rel => rw [← E9.out]; exact HR2.out
    case measure => simp [intOf]; omega
  ·have hie : i = ts.length := by omega
   obtain ⟨pa, pq, hpr, hrun⟩ := lt_from HRR.out (show f ≤ ts.length from by omega)
   have HPR := LH hpr
   have HLB := LH (show sls.length + 1 ≤ 100000000000 from by have := HSL.out; have := HDL.out; omega)
   have hfin : ∀ W v', OwnL slS W w.heap.size v' (sls ++ [⟨pa, ts.length - f, pq⟩]) → Below w.heap.size wr W → CutRet ts (cutI m 0 0 0 ts) B w (.returned v') W := by
    intro W v' h1 h2
    refine ⟨HB.out.trans h2, v', _, rfl, h1, ?_⟩
    have hc : cutI m 0 0 0 ts = done ++ [(f, ts.length)] := by rw [HC.out, hie, List.drop_length, cutI]
    rw [hc]
    refine Pcs.low (HP.out.snoc (s := ⟨pa, ts.length - f, pq⟩) (r := (f, ts.length)) rfl ?_) (h2.mono HBW.out)
    have e0 : pc ts f ts.length = ts.drop f := by unfold pc; exact List.take_of_length_le (by rw [List.length_drop]; omega)
    rw [e0]; exact HPR.out
   have HF := LH hfin
   have hnn : decide (i < ts.length) = false := decide_eq_false hlt
   clear hpr hfin hie
   go_wp2_with (at_builtin; refine OwnL.appendL slOk HO.out ⟨pa, ts.length - f, pq⟩ wr.heap.size rfl _ _ rfl rfl rfl #[.slice pa (ts.length - f) pq] rfl rfl hBr HLB.out ?_; intro v' w' h2 h3 h3k h4; have H2 := LH (HF.out w' v' h2 h3); clear h2 h3 h3k h4)
   go_ret
   exact H2.out
end Go.Proofs.YtcomdkejpaoneaaDoor
end
