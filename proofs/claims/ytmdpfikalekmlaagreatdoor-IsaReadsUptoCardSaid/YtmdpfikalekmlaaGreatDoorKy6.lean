/- Merged for a claim: Rr6 Rr7 Rr8 -/
import Derived.Test.YtmdpfikalekmlaaGreatDoorKy5
import Derived.Test.YtmdpfikalekmlaaGreatDoorKy2
section
/- Layer 20, the document's reader: instr. -/
namespace Go.Proofs.YtmdpfikalekmlaaGreatDoor
open Go.RowKit
set_option maxRecDepth 100000
set_option maxHeartbeats 8000000
set_option linter.unusedSimpArgs false
set_option linter.unusedVariables false

theorem rIns_none {s : List UInt8} (h : ∀ i, i < 17 → ¬ (opName i = wordL s ∧ opArgs i = ((numsL s).length : Int))) : rIns s = none := by
  unfold rIns
  have : ((List.range 17).find? fun i => decide (opName i = wordL s) && decide (opArgs i = ((numsL s).length : Int))) = none := by
    rw [List.find?_eq_none]
    intro i hi hq
    rw [Bool.and_eq_true, decide_eq_true_iff, decide_eq_true_iff] at hq
    exact h i (List.mem_range.1 hi) hq
  rw [this]
theorem rIns_at {s : List UInt8} {k : Nat} (hk : k < 17) (h : ∀ i, i < k → ¬ (opName i = wordL s ∧ opArgs i = ((numsL s).length : Int))) (h1 : opName k = wordL s) (h2 : opArgs k = ((numsL s).length : Int)) :
    rIns s = if s = insL ⟨(k : Int), (numsL s).getD 0 0, (numsL s).getD 1 0⟩ then some ⟨(k : Int), (numsL s).getD 0 0, (numsL s).getD 1 0⟩ else none := by
  unfold rIns
  have : ((List.range 17).find? fun i => decide (opName i = wordL s) && decide (opArgs i = ((numsL s).length : Int))) = some k := by
    rw [List.find?_range_eq_some]
    refine ⟨by simp [h1, h2], List.mem_range.2 hk, fun j hj => ?_⟩
    have := h j hj
    rw [Bool.not_eq_true', Bool.and_eq_false_iff, decide_eq_false_iff_not, decide_eq_false_iff_not]
    by_cases g : opName j = wordL s
    · exact Or.inr fun g2 => this ⟨g, g2⟩
    · exact Or.inl g
  rw [this]
/-- An instruction that has been made, in a box. -/
def InBox (w : World) (c : Ins) (v : Value) (wx : World) : Prop := ∃ g, v = .pointer (some ⟨g, 0, none⟩) ∧ w.heap.size ≤ g ∧ Below w.heap.size w wx ∧ Blk wx g 43 #[.int .i64 c.op, .int .u64 (c.a : Int), .int .u64 (c.b : Int)]
theorem cell_2 {W : World} {p : Addr} {v : Value} (h : W.cell? p = some v) (hl : p.block < W.heap.size) (o1 o2 : Obj) : ((W.alloc o1).alloc o2).cell? p = some v := by
  rw [World.cell?_alloc_lt (W.alloc o1) o2 _ (by rw [World.size_alloc]; omega), World.cell?_alloc_lt W o1 _ hl]; exact h
def RqRel (wl : List UInt8) (nl : Nat) (w3 : World) (iv : Value) (wr : World) : Prop :=
  ∃ k : Nat, k ≤ 17 ∧ iv = .int .i64 (k : Int) ∧ (∀ i, i < k → ¬ (opName i = wl ∧ opArgs i = (nl : Int))) ∧ Below w3.heap.size w3 wr
theorem opArgs_le {k : Nat} (h : k < 17) : 0 ≤ opArgs k ∧ opArgs k ≤ 2 := by
  have := List.all_eq_true.1 (show (List.range 17).all (fun k => decide (0 ≤ opArgs k ∧ opArgs k ≤ 2)) = true by decide) k (List.mem_range.2 h)
  exact of_decide_eq_true this
theorem inscell2 {w : World} {nb : Nat} {x : Ins} (h0 : w.cell? ⟨nb, 0, none⟩ = some (.int .i64 x.op)) (h1 : w.cell? ⟨nb, 1, none⟩ = some (.int .u64 (x.a : Int))) (h2 : w.cell? ⟨nb, 2, none⟩ = some (.int .u64 (x.b : Int))) : ∀ j u, (insS.enc x)[j]? = some u → w.cell? ⟨nb, j, none⟩ = some u := by
  intro j u hj
  match j with
  | 0 => simp only [insS, List.getElem?_cons_zero] at hj; rw [← hj]; exact h0
  | 1 => simp only [insS, List.getElem?_cons_succ, List.getElem?_cons_zero] at hj; rw [← hj]; exact h1
  | 2 => simp only [insS, List.getElem?_cons_succ, List.getElem?_cons_zero] at hj; rw [← hj]; exact h2
  | j + 3 => simp [insS] at hj
theorem PtsAt.codeKept {w w' : World} {B rb : Nat} {x : RdrV} {st : Rs} (h : PtsAt w B rb x st) (hk : KeptBut w w' x.kv) : w'.cell? ⟨rb, 7, none⟩ = some x.kv ∧ w'.frozen? ⟨rb, 7, none⟩ = false :=
  ⟨(h.blk.keptL h.code (by decide) hk).cell 7, (h.blk.keptL h.code (by decide) hk).frozen 7⟩
theorem rinstr_any (s : ByteArray) (w : World) (B rb : Nat) (x : RdrV) (st : Rs) (h : PtsAt w B rb x st) (hn : st.code.length ≤ 1000000000) (hs : s.size ≤ 1048576) :
    Calls Tryz.prog 55 #[.pointer (some ⟨rb, 0, none⟩), .string s] w (PnRet B rb w ((rIns s.data.toList).map fun c => { st with code := st.code ++ [c] })) := by
  have H := Lib.hid h
  have HF := Lib.hid (first_any s w (by omega))
  have hNU := rnumbers_any s w (by omega)
  have HNU := Lib.hid hNU
  clear h hNU
  have R0 := Lib.hid (@rIns_none s.data.toList)
  have R1 := Lib.hid (fun k => @rIns_at s.data.toList k)
  generalize wordL s.data.toList = wl at *
  go_enter Tryz.func55, Tryz.ntmps55
  go_wp2_with fail
  refine HF.out.mono ?_
  rintro e w' ⟨rfl, rfl⟩
  go_wp2_with fail
  refine HNU.out.mono ?_
  rintro e w2 ⟨v2, rfl, ho2, hlt2, hle2, hb2⟩
  have HB2 := Lib.hid hb2; have HL2 := Lib.hid hlt2
  have HO2 := Lib.hid (RdL.of_own ho2)
  have hBs2 := hb2.size
  clear ho2 hb2 hlt2 HNU HF
  generalize hnn : numsL s.data.toList = nl at *
  have HNN := Lib.hid hnn
  clear hnn
  obtain ⟨A2, c2, rfl, hcp, hcm⟩ := HO2.out.open_
  go_wp2_with fail
  refine (rtable_any w2).mono ?_
  rintro e w3 ⟨rfl, hw3⟩
  have HTC := Lib.hid (show ∀ i, i < 17 → w3.cell? ⟨w2.heap.size, i * 2, none⟩ = some (.string (str (opName i))) ∧ w3.cell? ⟨w2.heap.size, i * 2 + 1, none⟩ = some (.int .i64 (opArgs i)) from fun i hi =>
    ⟨by rw [hw3, World.cell?_alloc_new]; exact (refCells_get i hi).1, by rw [hw3, World.cell?_alloc_new]; exact (refCells_get i hi).2⟩)
  have HB3 := Lib.hid (show Below w.heap.size w w3 from by rw [hw3]; exact HB2.out.alloc hBs2 _)
  have HB23 := Lib.hid (show Below w2.heap.size w2 w3 from by rw [hw3]; exact (Below.refl _ _).alloc (Nat.le_refl _) _)
  have hlt3 : w2.heap.size < w3.heap.size := by rw [hw3, World.size_alloc]; omega
  have HLT3 := Lib.hid hlt3
  clear hw3
  go_wp2
  go_loopw [16] (fun iv wr => RqRel wl nl.length w3 iv wr) (fun iv _ => 17 - (intOf iv).toNat)
  case atStart => exact ⟨0, Nat.zero_le _, rfl, fun i hi => absurd hi (Nat.not_lt_zero _), Below.refl _ _⟩
  case round =>
    obtain ⟨k, hk, rfl, hno, hb⟩ := hrel
    have HNO := Lib.hid hno; have HB := Lib.hid hb
    have hBr := hb.size
    have HW := Lib.hid (HB3.out.trans (hb.mono HB3.out.size))
    clear hno
    by_cases hlt : k < 17
    · have hc := HTC.out k hlt
      have c1 : wr.cell? ⟨w2.heap.size, k * 2, none⟩ = some (.string (str (opName k))) := (World.cell?_of_block (hb.block _ HLT3.out)).trans hc.1
      have c2' : wr.cell? ⟨w2.heap.size, k * 2 + 1, none⟩ = some (.int .i64 (opArgs k)) := (World.cell?_of_block (hb.block _ HLT3.out)).trans hc.2
      have hkb : (0 : Int) ≤ (k : Int) ∧ (k : Int) < 17 := by omega
      have hoa := opArgs_le hlt
      have HEN := Lib.hid (show ((str (opName k)).toList == (str wl).toList) = decide (opName k = wl) from by
        rw [Bool.eq_iff_iff, beq_iff_eq, decide_eq_true_iff, ByteArray.toList_eq, ByteArray.toList_eq, str_data, str_data])
      have hltb : w2.heap.size < wr.heap.size := by omega
      clear hc hb
      by_cases hnm : opName k = wl
      case neg =>
        have he : ((str (opName k)).toList == (str wl).toList) = false := by rw [HEN.out]; exact decide_eq_false hnm
        have he2 : ((str (opName k)).toList != (str wl).toList) = true := by rw [bne, he]; rfl
        have HN2 := Lib.hid (show ∀ i, i < k + 1 → ¬ (opName i = wl ∧ opArgs i = (nl.length : Int)) from fun i hi => by
          rcases Nat.lt_or_ge i k with g | g
          · exact HNO.out i g
          · obtain rfl : i = k := by omega
            exact fun g2 => hnm g2.1)
        clear hnm HEN
        generalize str (opName k) = sn at *
        generalize opArgs k = ar at *
        generalize str wl = sw at *
        go_wp2
        go_roundw
        case rel => exact ⟨k + 1, by omega, by go_num, HN2.out, (HB.out.alloc hBr _)⟩
        case measure => simp [intOf]; omega
      have he : ((str (opName k)).toList == (str wl).toList) = true := by rw [HEN.out]; exact decide_eq_true hnm
      have he2 : ((str (opName k)).toList != (str wl).toList) = false := by rw [bne, he]; rfl
      by_cases har : opArgs k = (nl.length : Int)
      case neg =>
        have HN2 := Lib.hid (show ∀ i, i < k + 1 → ¬ (opName i = wl ∧ opArgs i = (nl.length : Int)) from fun i hi => by
          rcases Nat.lt_or_ge i k with g | g
          · exact HNO.out i g
          · obtain rfl : i = k := by omega
            exact fun g2 => har g2.2)
        have ha2 : (opArgs k == (nl.length : Int)) = false := by rw [beq_eq_false_iff_ne]; exact har
        clear HEN hnm har
        generalize str (opName k) = sn at *
        generalize opArgs k = ar at *
        generalize str wl = sw at *
        go_wp2
        go_roundw
        case rel => exact ⟨k + 1, by omega, by go_num, HN2.out, (HB.out.alloc hBr _)⟩
        case measure => simp [intOf]; omega
      have HNC := Lib.hid (R1.out k hlt HNO.out hnm har)
      have HOK := Lib.hid (show insOk ⟨(k : Int), nl.getD 0 0, nl.getD 1 0⟩ = true from insOk_of hlt har (fun h => by rw [List.eq_nil_of_length_eq_zero h]; rfl) (fun h => by
        rcases nl with _ | ⟨a, _ | ⟨b, r⟩⟩
        · rfl
        · rfl
        · simp at h; omega))
      have HAB := Lib.hid (show nl.getD 0 0 < 18446744073709551616 ∧ nl.getD 1 0 < 18446744073709551616 from ⟨getD_lt HL2.out 0, getD_lt HL2.out 1⟩)
      have hnl : nl.length ≤ 2 := by omega
      have HHC := Lib.hid (HO2.out.below (HB23.out.trans (HB.out.mono HB23.out.size)))
      have hka : opArgs k == (nl.length : Int) := by rw [beq_iff_eq]; exact har
      generalize hga : nl.getD 0 0 = va at *
      generalize hgb : nl.getD 1 0 = vb at *
      have hk64 : (k : Int) < 17 := hkb.2
      have hxr : w2.heap.size < wr.heap.size := hltb
      rcases nl with _ | ⟨a, _ | ⟨b, _ | ⟨c, r⟩⟩⟩
      · obtain rfl : va = 0 := by rw [← hga]; rfl
        obtain rfl : vb = 0 := by rw [← hgb]; rfl
        have har2 : opArgs k = 0 := har
        clear HEN hnm har hka hga hgb
        generalize str (opName k) = sn at *
        generalize opArgs k = ar at *
        subst har2
        generalize str wl = sw at *
        go_wp2
        have HB4 := Lib.hid (show Below wr.heap.size wr ((wr.alloc (.cells #[.string sn, .int .i64 0] 150)).alloc (.cells #[.int .i64 (k : Int), .int .u64 0, .int .u64 0] 43)) from ((Below.refl _ _).alloc (Nat.le_refl _) _).alloc (by rw [World.size_alloc]; exact Nat.le_succ _) _)
        have HBX := Lib.hid (show Blk ((wr.alloc (.cells #[.string sn, .int .i64 0] 150)).alloc (.cells #[.int .i64 (k : Int), .int .u64 0, .int .u64 0] 43)) (wr.heap.size + 1) 43 #[.int .i64 (k : Int), .int .u64 0, .int .u64 0] from by
          have h := Blk.new (wr.alloc (.cells #[.string sn, .int .i64 0] 150)) 43 #[.int .i64 (k : Int), .int .u64 0, .int .u64 0]
          rw [World.size_alloc] at h
          exact h)
        generalize ((wr.alloc (.cells #[.string sn, .int .i64 0] 150)).alloc (.cells #[.int .i64 (k : Int), .int .u64 0, .int .u64 0] 43)) = w4 at *
        have HB5 := Lib.hid (HW.out.trans (HB4.out.mono HW.out.size))
        have HR3 := Lib.hid (H.out.below HB5.out)
        have HKB := Lib.hid (RKeep.ofW (rb := rb) H.out.hB HB5.out)
        have q0 := HBX.out.cell 0
        have q1 := HBX.out.cell 1
        have q2 := HBX.out.cell 2
        simp only [List.getElem?_toArray, List.getElem?_cons_zero, List.getElem?_cons_succ] at q0 q1 q2
        have hbl := HBX.out.lt
        have r1 : w4.cell? ⟨rb, 7, none⟩ = some x.kv := HR3.out.blk.cell 7
        have hrl := HR3.out.blk.lt
        have HL := Lib.hid (show st.code.length + 1 ≤ 970000000000 by omega)
        have hwz := HW.out.size
        have HNO := Lib.hid (show x.kv.ownBlock ≠ some (wr.heap.size + 1) from fun e => by have := H.out.code.ownLt e; omega)
        have HRB := Lib.hid (show wr.heap.size + 1 ≠ rb from by have := H.out.hrb; have := H.out.hB; omega)
        go_region_law (first
          | ((with_reducible refine OwnL.stepAppendG insSOk (B := B) (v := x.kv) (l := st.code) (PtsAt.code (B := B) (rb := rb) (x := x) (st := st) (by (repeat (first | exact HR3.out | with_reducible refine PtsAt.drew ?_ | with_reducible refine PtsAt.alloc ?_ _)); done)) (Ins.mk (k : Int) 0 0) _ rfl _ _ rfl rfl rfl (by refine inscell2 ?_ ?_ ?_ <;> simp [World.cell?_alloc_new]) (PtsAt.hB (B := B) (rb := rb) (x := x) (st := st) (by (repeat (first | exact HR3.out | with_reducible refine PtsAt.drew ?_ | with_reducible refine PtsAt.alloc ?_ _)); done)) HL.out (fun g6 c6 w6 h2 h3 h3k h4 h5 => ?_)); (have hR6 := (PtsAt.pushIns (B := B) (rb := rb) (x := x) (st := st) (by (repeat (first | exact HR3.out | with_reducible refine PtsAt.drew ?_ | with_reducible refine PtsAt.alloc ?_ _)); done) (Ins.mk (k : Int) 0 0) h2 h3 h3k)); (have hK6 := HKB.out.grow1 HR3.out.hB h3); (have hX6 := Blk.keptB (g := wr.heap.size + 1) (t := 43) (cs := #[.int .i64 (k : Int), .int .u64 0, .int .u64 0]) (by (repeat (first | exact HBX.out | with_reducible refine Blk.drewI ?_ | with_reducible refine Blk.alloc ?_ _)); done) h3k HNO.out); (obtain ⟨m6, m7⟩ := PtsAt.codeKept (B := B) (rb := rb) (x := x) (st := st) (by (repeat (first | exact HR3.out | with_reducible refine PtsAt.drew ?_ | with_reducible refine PtsAt.alloc ?_ _)); done) h3k); clear h2 h3 h3k h4))
        all_goals
          have HR7 := Lib.hid hR6
          have HK7 := Lib.hid (hK6.trans (RKeep.set_ B rb 7 _ (.slice (some ⟨g6, 0, none⟩) (st.code.length + 1) c6)))
          have HX7 := Lib.hid (hX6.far (p := ⟨rb, 7, none⟩) HRB.out (.slice (some ⟨g6, 0, none⟩) (st.code.length + 1) c6))
          clear hR6 hK6 hX6 m6 m7 h5 q0 q1 q2 hbl r1 hrl
          generalize (w6.setCell ⟨rb, 7, none⟩ (.slice (some ⟨g6, 0, none⟩) (st.code.length + 1) c6)) = w7 at *
          have HCL := Lib.hid (codeLine_any (Ins.mk (k : Int) 0 0) w7 HOK.out HAB.out.1 HAB.out.2)
          simp only [] at HCL
          have q0 := HX7.out.cell 0
          have q1 := HX7.out.cell 1
          have q2 := HX7.out.cell 2
          simp only [List.getElem?_toArray, List.getElem?_cons_zero, List.getElem?_cons_succ] at q0 q1 q2
          have HEQ := Lib.hid (show (s.toList == (str (insL (Ins.mk (k : Int) 0 0))).toList) = decide (s.data.toList = insL (Ins.mk (k : Int) 0 0)) from by
            rw [Bool.eq_iff_iff, beq_iff_eq, decide_eq_true_iff, ByteArray.toList_eq, ByteArray.toList_eq, str_data])
          by_cases hcmp : s.data.toList = insL (Ins.mk (k : Int) 0 0)
          · have heq : (s.toList == (str (insL (Ins.mk (k : Int) 0 0))).toList) = true := by rw [HEQ.out]; exact decide_eq_true hcmp
            rw [if_pos hcmp] at HNC
            clear hcmp HEQ
            generalize str (insL (Ins.mk (k : Int) 0 0)) = sl at *
            go_wp2_with fail
            refine HCL.out.mono ?_
            rintro e w8 ⟨rfl, hb8⟩
            go_wp2
            go_ret
            exact PnRet.good (HK7.out.trans (RKeep.ofW HR7.out.hB hb8)) (by rw [HNC.out]; rfl) rfl (HR7.out.below hb8)
          · have heq : (s.toList == (str (insL (Ins.mk (k : Int) 0 0))).toList) = false := by rw [HEQ.out]; exact decide_eq_false hcmp
            rw [if_neg hcmp] at HNC
            clear hcmp HEQ
            generalize str (insL (Ins.mk (k : Int) 0 0)) = sl at *
            go_wp2_with fail
            refine HCL.out.mono ?_
            rintro e w8 ⟨rfl, hb8⟩
            go_wp2
            go_ret
            exact PnRet.bad (HK7.out.trans (RKeep.ofW HR7.out.hB hb8)) (by rw [HNC.out]; rfl) rfl
      · obtain rfl : va = a := by rw [← hga]; rfl
        obtain rfl : vb = 0 := by rw [← hgb]; rfl
        obtain ⟨a2, rfl, hab, d0⟩ := at_nat HHC.out (k := 0) (by simp)
        rw [addr_zero] at d0 hab
        simp only [List.getElem_cons_zero] at d0
        have hd0 := cell_2 d0 (Nat.lt_trans hab hltb)
        have har2 : opArgs k = 1 := har
        clear HEN hnm har hka hga hgb
        generalize str (opName k) = sn at *
        generalize opArgs k = ar at *
        subst har2
        generalize str wl = sw at *
        go_wp2
        have HB4 := Lib.hid (show Below wr.heap.size wr ((wr.alloc (.cells #[.string sn, .int .i64 1] 150)).alloc (.cells #[.int .i64 (k : Int), .int .u64 (va : Int), .int .u64 0] 43)) from ((Below.refl _ _).alloc (Nat.le_refl _) _).alloc (by rw [World.size_alloc]; exact Nat.le_succ _) _)
        have HBX := Lib.hid (show Blk ((wr.alloc (.cells #[.string sn, .int .i64 1] 150)).alloc (.cells #[.int .i64 (k : Int), .int .u64 (va : Int), .int .u64 0] 43)) (wr.heap.size + 1) 43 #[.int .i64 (k : Int), .int .u64 (va : Int), .int .u64 0] from by
          have h := Blk.new (wr.alloc (.cells #[.string sn, .int .i64 1] 150)) 43 #[.int .i64 (k : Int), .int .u64 (va : Int), .int .u64 0]
          rw [World.size_alloc] at h
          exact h)
        generalize ((wr.alloc (.cells #[.string sn, .int .i64 1] 150)).alloc (.cells #[.int .i64 (k : Int), .int .u64 (va : Int), .int .u64 0] 43)) = w4 at *
        have HB5 := Lib.hid (HW.out.trans (HB4.out.mono HW.out.size))
        have HR3 := Lib.hid (H.out.below HB5.out)
        have HKB := Lib.hid (RKeep.ofW (rb := rb) H.out.hB HB5.out)
        have q0 := HBX.out.cell 0
        have q1 := HBX.out.cell 1
        have q2 := HBX.out.cell 2
        simp only [List.getElem?_toArray, List.getElem?_cons_zero, List.getElem?_cons_succ] at q0 q1 q2
        have hbl := HBX.out.lt
        have r1 : w4.cell? ⟨rb, 7, none⟩ = some x.kv := HR3.out.blk.cell 7
        have hrl := HR3.out.blk.lt
        have HL := Lib.hid (show st.code.length + 1 ≤ 970000000000 by omega)
        have hwz := HW.out.size
        have HNO := Lib.hid (show x.kv.ownBlock ≠ some (wr.heap.size + 1) from fun e => by have := H.out.code.ownLt e; omega)
        have HRB := Lib.hid (show wr.heap.size + 1 ≠ rb from by have := H.out.hrb; have := H.out.hB; omega)
        go_region_law (first
          | ((with_reducible refine OwnL.stepAppendG insSOk (B := B) (v := x.kv) (l := st.code) (PtsAt.code (B := B) (rb := rb) (x := x) (st := st) (by (repeat (first | exact HR3.out | with_reducible refine PtsAt.drew ?_ | with_reducible refine PtsAt.alloc ?_ _)); done)) (Ins.mk (k : Int) va 0) _ rfl _ _ rfl rfl rfl (by refine inscell2 ?_ ?_ ?_ <;> simp [World.cell?_alloc_new]) (PtsAt.hB (B := B) (rb := rb) (x := x) (st := st) (by (repeat (first | exact HR3.out | with_reducible refine PtsAt.drew ?_ | with_reducible refine PtsAt.alloc ?_ _)); done)) HL.out (fun g6 c6 w6 h2 h3 h3k h4 h5 => ?_)); (have hR6 := (PtsAt.pushIns (B := B) (rb := rb) (x := x) (st := st) (by (repeat (first | exact HR3.out | with_reducible refine PtsAt.drew ?_ | with_reducible refine PtsAt.alloc ?_ _)); done) (Ins.mk (k : Int) va 0) h2 h3 h3k)); (have hK6 := HKB.out.grow1 HR3.out.hB h3); (have hX6 := Blk.keptB (g := wr.heap.size + 1) (t := 43) (cs := #[.int .i64 (k : Int), .int .u64 (va : Int), .int .u64 0]) (by (repeat (first | exact HBX.out | with_reducible refine Blk.drewI ?_ | with_reducible refine Blk.alloc ?_ _)); done) h3k HNO.out); (obtain ⟨m6, m7⟩ := PtsAt.codeKept (B := B) (rb := rb) (x := x) (st := st) (by (repeat (first | exact HR3.out | with_reducible refine PtsAt.drew ?_ | with_reducible refine PtsAt.alloc ?_ _)); done) h3k); clear h2 h3 h3k h4))
        all_goals
          have HR7 := Lib.hid hR6
          have HK7 := Lib.hid (hK6.trans (RKeep.set_ B rb 7 _ (.slice (some ⟨g6, 0, none⟩) (st.code.length + 1) c6)))
          have HX7 := Lib.hid (hX6.far (p := ⟨rb, 7, none⟩) HRB.out (.slice (some ⟨g6, 0, none⟩) (st.code.length + 1) c6))
          clear hR6 hK6 hX6 m6 m7 h5 q0 q1 q2 hbl r1 hrl
          generalize (w6.setCell ⟨rb, 7, none⟩ (.slice (some ⟨g6, 0, none⟩) (st.code.length + 1) c6)) = w7 at *
          have HCL := Lib.hid (codeLine_any (Ins.mk (k : Int) va 0) w7 HOK.out HAB.out.1 HAB.out.2)
          simp only [] at HCL
          have q0 := HX7.out.cell 0
          have q1 := HX7.out.cell 1
          have q2 := HX7.out.cell 2
          simp only [List.getElem?_toArray, List.getElem?_cons_zero, List.getElem?_cons_succ] at q0 q1 q2
          have HEQ := Lib.hid (show (s.toList == (str (insL (Ins.mk (k : Int) va 0))).toList) = decide (s.data.toList = insL (Ins.mk (k : Int) va 0)) from by
            rw [Bool.eq_iff_iff, beq_iff_eq, decide_eq_true_iff, ByteArray.toList_eq, ByteArray.toList_eq, str_data])
          by_cases hcmp : s.data.toList = insL (Ins.mk (k : Int) va 0)
          · have heq : (s.toList == (str (insL (Ins.mk (k : Int) va 0))).toList) = true := by rw [HEQ.out]; exact decide_eq_true hcmp
            rw [if_pos hcmp] at HNC
            clear hcmp HEQ
            generalize str (insL (Ins.mk (k : Int) va 0)) = sl at *
            go_wp2_with fail
            refine HCL.out.mono ?_
            rintro e w8 ⟨rfl, hb8⟩
            go_wp2
            go_ret
            exact PnRet.good (HK7.out.trans (RKeep.ofW HR7.out.hB hb8)) (by rw [HNC.out]; rfl) rfl (HR7.out.below hb8)
          · have heq : (s.toList == (str (insL (Ins.mk (k : Int) va 0))).toList) = false := by rw [HEQ.out]; exact decide_eq_false hcmp
            rw [if_neg hcmp] at HNC
            clear hcmp HEQ
            generalize str (insL (Ins.mk (k : Int) va 0)) = sl at *
            go_wp2_with fail
            refine HCL.out.mono ?_
            rintro e w8 ⟨rfl, hb8⟩
            go_wp2
            go_ret
            exact PnRet.bad (HK7.out.trans (RKeep.ofW HR7.out.hB hb8)) (by rw [HNC.out]; rfl) rfl
      · obtain rfl : va = a := by rw [← hga]; rfl
        obtain rfl : vb = b := by rw [← hgb]; rfl
        obtain ⟨a2, rfl, hab, d0⟩ := at_nat HHC.out (k := 0) (by simp)
        obtain ⟨a3, ha3, hab3, d1⟩ := at_nat HHC.out (k := 1) (by simp)
        injection ha3 with ha3
        subst ha3
        rw [addr_zero] at d0 hab
        rw [addr_one] at d1 hab3
        simp only [List.getElem_cons_zero, List.getElem_cons_succ] at d0 d1
        have hd0 := cell_2 d0 (Nat.lt_trans hab hltb)
        have hd1 := cell_2 d1 (Nat.lt_trans hab3 hltb)
        have har2 : opArgs k = 2 := har
        clear HEN hnm har hka hga hgb
        generalize str (opName k) = sn at *
        generalize opArgs k = ar at *
        subst har2
        generalize str wl = sw at *
        go_wp2
        have HB4 := Lib.hid (show Below wr.heap.size wr ((wr.alloc (.cells #[.string sn, .int .i64 2] 150)).alloc (.cells #[.int .i64 (k : Int), .int .u64 (va : Int), .int .u64 (vb : Int)] 43)) from ((Below.refl _ _).alloc (Nat.le_refl _) _).alloc (by rw [World.size_alloc]; exact Nat.le_succ _) _)
        have HBX := Lib.hid (show Blk ((wr.alloc (.cells #[.string sn, .int .i64 2] 150)).alloc (.cells #[.int .i64 (k : Int), .int .u64 (va : Int), .int .u64 (vb : Int)] 43)) (wr.heap.size + 1) 43 #[.int .i64 (k : Int), .int .u64 (va : Int), .int .u64 (vb : Int)] from by
          have h := Blk.new (wr.alloc (.cells #[.string sn, .int .i64 2] 150)) 43 #[.int .i64 (k : Int), .int .u64 (va : Int), .int .u64 (vb : Int)]
          rw [World.size_alloc] at h
          exact h)
        generalize ((wr.alloc (.cells #[.string sn, .int .i64 2] 150)).alloc (.cells #[.int .i64 (k : Int), .int .u64 (va : Int), .int .u64 (vb : Int)] 43)) = w4 at *
        have HB5 := Lib.hid (HW.out.trans (HB4.out.mono HW.out.size))
        have HR3 := Lib.hid (H.out.below HB5.out)
        have HKB := Lib.hid (RKeep.ofW (rb := rb) H.out.hB HB5.out)
        have q0 := HBX.out.cell 0
        have q1 := HBX.out.cell 1
        have q2 := HBX.out.cell 2
        simp only [List.getElem?_toArray, List.getElem?_cons_zero, List.getElem?_cons_succ] at q0 q1 q2
        have hbl := HBX.out.lt
        have r1 : w4.cell? ⟨rb, 7, none⟩ = some x.kv := HR3.out.blk.cell 7
        have hrl := HR3.out.blk.lt
        have HL := Lib.hid (show st.code.length + 1 ≤ 970000000000 by omega)
        have hwz := HW.out.size
        have HNO := Lib.hid (show x.kv.ownBlock ≠ some (wr.heap.size + 1) from fun e => by have := H.out.code.ownLt e; omega)
        have HRB := Lib.hid (show wr.heap.size + 1 ≠ rb from by have := H.out.hrb; have := H.out.hB; omega)
        go_region_law (first
          | ((with_reducible refine OwnL.stepAppendG insSOk (B := B) (v := x.kv) (l := st.code) (PtsAt.code (B := B) (rb := rb) (x := x) (st := st) (by (repeat (first | exact HR3.out | with_reducible refine PtsAt.drew ?_ | with_reducible refine PtsAt.alloc ?_ _)); done)) (Ins.mk (k : Int) va vb) _ rfl _ _ rfl rfl rfl (by refine inscell2 ?_ ?_ ?_ <;> simp [World.cell?_alloc_new]) (PtsAt.hB (B := B) (rb := rb) (x := x) (st := st) (by (repeat (first | exact HR3.out | with_reducible refine PtsAt.drew ?_ | with_reducible refine PtsAt.alloc ?_ _)); done)) HL.out (fun g6 c6 w6 h2 h3 h3k h4 h5 => ?_)); (have hR6 := (PtsAt.pushIns (B := B) (rb := rb) (x := x) (st := st) (by (repeat (first | exact HR3.out | with_reducible refine PtsAt.drew ?_ | with_reducible refine PtsAt.alloc ?_ _)); done) (Ins.mk (k : Int) va vb) h2 h3 h3k)); (have hK6 := HKB.out.grow1 HR3.out.hB h3); (have hX6 := Blk.keptB (g := wr.heap.size + 1) (t := 43) (cs := #[.int .i64 (k : Int), .int .u64 (va : Int), .int .u64 (vb : Int)]) (by (repeat (first | exact HBX.out | with_reducible refine Blk.drewI ?_ | with_reducible refine Blk.alloc ?_ _)); done) h3k HNO.out); (obtain ⟨m6, m7⟩ := PtsAt.codeKept (B := B) (rb := rb) (x := x) (st := st) (by (repeat (first | exact HR3.out | with_reducible refine PtsAt.drew ?_ | with_reducible refine PtsAt.alloc ?_ _)); done) h3k); clear h2 h3 h3k h4))
        all_goals
          have HR7 := Lib.hid hR6
          have HK7 := Lib.hid (hK6.trans (RKeep.set_ B rb 7 _ (.slice (some ⟨g6, 0, none⟩) (st.code.length + 1) c6)))
          have HX7 := Lib.hid (hX6.far (p := ⟨rb, 7, none⟩) HRB.out (.slice (some ⟨g6, 0, none⟩) (st.code.length + 1) c6))
          clear hR6 hK6 hX6 m6 m7 h5 q0 q1 q2 hbl r1 hrl
          generalize (w6.setCell ⟨rb, 7, none⟩ (.slice (some ⟨g6, 0, none⟩) (st.code.length + 1) c6)) = w7 at *
          have HCL := Lib.hid (codeLine_any (Ins.mk (k : Int) va vb) w7 HOK.out HAB.out.1 HAB.out.2)
          simp only [] at HCL
          have q0 := HX7.out.cell 0
          have q1 := HX7.out.cell 1
          have q2 := HX7.out.cell 2
          simp only [List.getElem?_toArray, List.getElem?_cons_zero, List.getElem?_cons_succ] at q0 q1 q2
          have HEQ := Lib.hid (show (s.toList == (str (insL (Ins.mk (k : Int) va vb))).toList) = decide (s.data.toList = insL (Ins.mk (k : Int) va vb)) from by
            rw [Bool.eq_iff_iff, beq_iff_eq, decide_eq_true_iff, ByteArray.toList_eq, ByteArray.toList_eq, str_data])
          by_cases hcmp : s.data.toList = insL (Ins.mk (k : Int) va vb)
          · have heq : (s.toList == (str (insL (Ins.mk (k : Int) va vb))).toList) = true := by rw [HEQ.out]; exact decide_eq_true hcmp
            rw [if_pos hcmp] at HNC
            clear hcmp HEQ
            generalize str (insL (Ins.mk (k : Int) va vb)) = sl at *
            go_wp2_with fail
            refine HCL.out.mono ?_
            rintro e w8 ⟨rfl, hb8⟩
            go_wp2
            go_ret
            exact PnRet.good (HK7.out.trans (RKeep.ofW HR7.out.hB hb8)) (by rw [HNC.out]; rfl) rfl (HR7.out.below hb8)
          · have heq : (s.toList == (str (insL (Ins.mk (k : Int) va vb))).toList) = false := by rw [HEQ.out]; exact decide_eq_false hcmp
            rw [if_neg hcmp] at HNC
            clear hcmp HEQ
            generalize str (insL (Ins.mk (k : Int) va vb)) = sl at *
            go_wp2_with fail
            refine HCL.out.mono ?_
            rintro e w8 ⟨rfl, hb8⟩
            go_wp2
            go_ret
            exact PnRet.bad (HK7.out.trans (RKeep.ofW HR7.out.hB hb8)) (by rw [HNC.out]; rfl) rfl
      · exfalso; simp at hnl
    · have HN := Lib.hid (R0.out (fun i hi => HNO.out i (by omega)))
      have hk17 : k = 17 := by omega
      have HK := Lib.hid (RKeep.ofW (rb := rb) H.out.hB HW.out)
      go_wp2
      go_ret
      exact PnRet.bad HK.out (by rw [HN.out]; rfl) rfl
end Go.Proofs.YtmdpfikalekmlaaGreatDoor
end
section
/- Layer 20, the document's reader: line. -/
namespace Go.Proofs.YtmdpfikalekmlaaGreatDoor
open Go.RowKit
set_option maxRecDepth 100000
set_option maxHeartbeats 8000000
set_option linter.unusedSimpArgs false
set_option linter.unusedVariables false

theorem baL_beq (s : ByteArray) (m : List UInt8) : (s.toList == m) = decide (s.data.toList = m) := by
  rw [Bool.eq_iff_iff, beq_iff_eq, decide_eq_true_iff, ByteArray.toList_eq]
theorem strC_yes {l m : List UInt8} (h : l = m) : ((str l).toList == m) = true := by rw [baL_beq, str_data]; exact decide_eq_true h
theorem strC_no {l m : List UInt8} (h : ¬ l = m) : ((str l).toList == m) = false := by rw [baL_beq, str_data]; exact decide_eq_false h
/-- The reader's lists are short. -/
structure Short (st : Rs) : Prop where
  curs : st.curs.length ≤ 1000000000
  nears : st.nears.length ≤ 1000000000
  code : st.code.length ≤ 1000000000
theorem small_of {l : List Int} (h : ∀ x ∈ l, 0 ≤ x ∧ x < 9223372036854775808) : SmallInts l ∧ neg l = false :=
  ⟨fun x hx => by have := h x hx; omega, neg_of fun x hx => (h x hx).1⟩
/-- The numbers of a line, as ints; what words writes of them. -/
theorem rints_all (s : ByteArray) (hs : s.size ≤ 1048576) : (rints (numsL s.data.toList)).length ≤ 1048576 → SmallInts (rints (numsL s.data.toList)) ∧ neg (rints (numsL s.data.toList)) = false := fun _ => small_of (rints_small _)
section
variable (s : ByteArray) (w : World) (B rb : Nat) (x : RdrV) (st : Rs) (h : PtsAt w B rb x st) (hsh : Short st) (hs : s.size ≤ 1048576)
include h hsh hs
theorem rline_avgs (h0 : st.part = 0) :
    Calls Tryz.prog 20 #[.pointer (some ⟨rb, 0, none⟩), .string s] w (PnRet B rb w (rLine st s.data.toList)) := by
  have H := Lib.hid h
  have HSH := Lib.hid hsh
  have r6 : w.cell? ⟨rb, 6, none⟩ = some (.int .i64 (st.part : Int)) := h.blk.cell 6
  have fr6 : w.frozen? ⟨rb, 6, none⟩ = false := h.blk.frozen 6
  have hrl := h.blk.lt
  clear h hsh
  have HN := Lib.hid (show rLine st s.data.toList = (rNums wdA s.data.toList).map fun l => { st with avgs := l, part := 1 } from by unfold rLine; rw [if_pos h0])
  have h0i : (st.part : Int) = 0 := by omega
  rw [h0i] at r6
  have HR1 := Lib.hid (show PtsAt (w.setCell ⟨rb, 6, none⟩ (.int .i64 1)) B rb x { st with part := 1 } from H.out.setPart 1)
  have HK1 := Lib.hid (RKeep.set_ B rb 6 w (.int .i64 1))
  clear h0 h0i
  go_enter Tryz.func20, Tryz.ntmps20
  go_wp2_with fail
  generalize (w.setCell ⟨rb, 6, none⟩ (.int .i64 1)) = wa at *
  refine (rnumbers_any s wa (by omega)).mono ?_
  rintro e w1 ⟨v1, rfl, ho1, hlt1, hle1, hb1⟩
  have HO1 := Lib.hid (RdL.of_own ho1); have HB1 := Lib.hid hb1; have HL1 := Lib.hid hlt1
  have hBs1 := hb1.size
  clear ho1 hb1 hlt1
  go_wp2_with fail
  refine (rints_any v1 _ w1 w1.heap.size (Nat.le_refl _) HO1.out (by omega) HL1.out).mono ?_
  rintro e w2 ⟨v2, rfl, ho2, hb2⟩
  have HB2 := Lib.hid (HB1.out.trans (hb2.mono hBs1))
  obtain ⟨A2, c2, rfl, hcp, hcm, -⟩ := ho2.open_
  have HO2 := Lib.hid ho2
  have HSM := Lib.hid (small_of (rints_small (numsL s.data.toList)))
  have hrn : (rints (numsL s.data.toList)).length ≤ 1048576 := by rw [rints_length]; omega
  clear ho2 hb2 HO1 HL1
  have HR2 := Lib.hid (HR1.out.below HB2.out)
  have HK2 := Lib.hid (HK1.out.trans (RKeep.ofW (rb := rb) HR1.out.hB HB2.out))
  have hB1 : B ≤ w1.heap.size := Nat.le_trans HR1.out.hB hBs1
  have HR3 := Lib.hid (HR2.out.setAvgs (OwnL.more HO2.out hB1))
  have HK3 := Lib.hid (HK2.out.trans (RKeep.set_ B rb 0 w2 (.slice A2 (rints (numsL s.data.toList)).length c2)))
  have m0 : w2.cell? ⟨rb, 0, none⟩ = some x.av := HR2.out.blk.cell 0
  have fm0 : w2.frozen? ⟨rb, 0, none⟩ = false := HR2.out.blk.frozen 0
  have hml := HR2.out.blk.lt
  have HWD := Lib.hid (show ∀ W, RdL intS W W.heap.size (.slice A2 (rints (numsL s.data.toList)).length c2) (rints (numsL s.data.toList)) → Calls Tryz.prog 51 #[.string ⟨#[97, 118, 103, 115]⟩, .slice A2 (rints (numsL s.data.toList)).length c2] W fun e w' => e = .returned (.string (str (lineL wdA (rints (numsL s.data.toList))))) ∧ Below W.heap.size W w' from
    fun W hW => words_any wdA _ _ W W.heap.size (Nat.le_refl _) hW HSM.out.1 HSM.out.2 (by decide) (by omega))
  have HRN := Lib.hid (show rNums wdA s.data.toList = if s.data.toList = lineL wdA (rints (numsL s.data.toList)) then some (rints (numsL s.data.toList)) else none from rfl)
  have HEQ := Lib.hid (show (s.toList == (str (lineL wdA (rints (numsL s.data.toList)))).toList) = decide (s.data.toList = lineL wdA (rints (numsL s.data.toList))) from by
    rw [Bool.eq_iff_iff, beq_iff_eq, decide_eq_true_iff, ByteArray.toList_eq, ByteArray.toList_eq, str_data])
  generalize rints (numsL s.data.toList) = rl at *
  go_wp2_with fail
  generalize (w2.setCell ⟨rb, 0, none⟩ (.slice A2 rl.length c2)) = w3 at *
  have HRD := Lib.hid (RdL.of_own HR3.out.avgs)
  refine (HWD.out w3 HRD.out).mono ?_
  rintro e w4 ⟨rfl, hb4⟩
  have HK4 := Lib.hid (HK3.out.trans (RKeep.ofW HR3.out.hB hb4))
  have HR4 := Lib.hid (HR3.out.below hb4)
  clear hb4
  by_cases hcmp : s.data.toList = lineL wdA rl
  · have heq : (s.toList == (str (lineL wdA rl)).toList) = true := by rw [HEQ.out]; exact decide_eq_true hcmp
    rw [if_pos hcmp] at HRN
    clear hcmp HEQ
    generalize str (lineL wdA rl) = sl at *
    go_wp2
    go_ret
    exact PnRet.good HK4.out (by rw [HN.out, HRN.out]; rfl) rfl HR4.out
  · have heq : (s.toList == (str (lineL wdA rl)).toList) = false := by rw [HEQ.out]; exact decide_eq_false hcmp
    rw [if_neg hcmp] at HRN
    clear hcmp HEQ
    generalize str (lineL wdA rl) = sl at *
    go_wp2
    go_ret
    exact PnRet.bad HK4.out (by rw [HN.out, HRN.out]; rfl) rfl
theorem rline_cur (h0 : st.part ≠ 0) (hwd : wordL s.data.toList = wdC) :
    Calls Tryz.prog 20 #[.pointer (some ⟨rb, 0, none⟩), .string s] w (PnRet B rb w (rLine st s.data.toList)) := by
  have H := Lib.hid h
  have HSH := Lib.hid hsh
  have r6 : w.cell? ⟨rb, 6, none⟩ = some (.int .i64 (st.part : Int)) := h.blk.cell 6
  have fr6 : w.frozen? ⟨rb, 6, none⟩ = false := h.blk.frozen 6
  have hrl := h.blk.lt
  clear h hsh
  have hp0 : ((st.part : Int) == 0) = false := by rw [beq_eq_false_iff_ne]; omega
  have hw0 : ((str (wordL s.data.toList)).toList == [99, 117, 114, 115, 111, 114]) = true := strC_yes hwd
  have HF := Lib.hid (first_any s w (by omega))
  generalize hsw : str (wordL s.data.toList) = sw at *
  clear hsw
  by_cases h1 : st.part = 1
  · have HN := Lib.hid (show rLine st s.data.toList = (rCur s.data.toList).map fun c => { st with curs := st.curs ++ [c], part := 1 } from by unfold rLine; rw [if_neg h0, if_pos hwd, if_pos h1])
    have HE := Lib.hid (show ∀ c, ({ st with curs := st.curs ++ [c], part := 1 } : Rs) = { st with curs := st.curs ++ [c] } from fun c => by rw [← h1])
    have hp1 : ((st.part : Int) == 1) = true := by rw [beq_iff_eq]; omega
    clear h0 h1 hwd
    have HC := Lib.hid (rcursor_any s w B rb x st H.out HSH.out.curs (by omega))
    have HMP := Lib.hid (show (rCur s.data.toList).map (fun c => ({ st with curs := st.curs ++ [c], part := 1 } : Rs)) = (rCur s.data.toList).map (fun c => { st with curs := st.curs ++ [c] }) from by congr 1; funext c; exact HE.out c)
    rw [HMP.out] at HN
    clear HE HMP
    go_enter Tryz.func20, Tryz.ntmps20
    go_wp2_with fail
    refine HF.out.mono ?_
    rintro e w' ⟨rfl, rfl⟩
    go_wp2_with fail
    refine HC.out.mono ?_
    rintro e w5 ⟨hk, hm⟩
    cases hr : rCur s.data.toList with
    | none =>
      rw [hr] at hm
      simp only [Option.map_none] at hm
      subst hm
      have HNN := Lib.hid hr
      clear hr
      go_wp2
      go_ret
      exact PnRet.bad hk (by rw [HN.out, HNN.out]; rfl) rfl
    | some c =>
      rw [hr] at hm
      simp only [Option.map_some] at hm
      obtain ⟨rfl, x5, hx5⟩ := hm
      have HNN := Lib.hid hr
      clear hr
      go_wp2
      go_ret
      exact PnRet.good hk (by rw [HN.out, HNN.out]; rfl) rfl hx5
  · have HN := Lib.hid (show rLine st s.data.toList = none from by unfold rLine; rw [if_neg h0, if_pos hwd, if_neg h1])
    have hp1 : ((st.part : Int) == 1) = false := by rw [beq_eq_false_iff_ne]; omega
    clear h0 h1 hwd
    go_enter Tryz.func20, Tryz.ntmps20
    go_wp2_with fail
    refine HF.out.mono ?_
    rintro e w' ⟨rfl, rfl⟩
    go_wp2
    go_ret
    exact PnRet.bad (RKeep.refl _ _ _) HN.out rfl
theorem rline_near (h0 : st.part ≠ 0) (hwd : wordL s.data.toList = wdN) :
    Calls Tryz.prog 20 #[.pointer (some ⟨rb, 0, none⟩), .string s] w (PnRet B rb w (rLine st s.data.toList)) := by
  have H := Lib.hid h
  have HSH := Lib.hid hsh
  have r6 : w.cell? ⟨rb, 6, none⟩ = some (.int .i64 (st.part : Int)) := h.blk.cell 6
  have fr6 : w.frozen? ⟨rb, 6, none⟩ = false := h.blk.frozen 6
  have hrl := h.blk.lt
  clear h hsh
  have hp0 : ((st.part : Int) == 0) = false := by rw [beq_eq_false_iff_ne]; omega
  have hw0 : ((str (wordL s.data.toList)).toList == [99, 117, 114, 115, 111, 114]) = false := strC_no (by first | (rw [hwd]; decide) | exact hn0)
  have hw1 : ((str (wordL s.data.toList)).toList == [110, 101, 97, 114]) = true := strC_yes hwd
  have HF := Lib.hid (first_any s w (by omega))
  generalize hsw : str (wordL s.data.toList) = sw at *
  clear hsw
  have hnc : ¬ wordL s.data.toList = wdC := by rw [hwd]; decide
  have HR1 := Lib.hid (show PtsAt (w.setCell ⟨rb, 6, none⟩ (.int .i64 2)) B rb x { st with part := 2 } from H.out.setPart 2)
  have HK1 := Lib.hid (RKeep.set_ B rb 6 w (.int .i64 2))
  by_cases h1 : st.part ≤ 2
  · have HN := Lib.hid (show rLine st s.data.toList = (rNear s.data.toList).map fun c => { st with nears := st.nears ++ [c], part := 2 } from by unfold rLine; rw [if_neg h0, if_neg hnc, if_pos hwd, if_pos h1])
    have hp1 : (st.part : Int) ≤ 2 := by omega
    clear h0 h1 hwd hnc
    have HC := Lib.hid (rnear_any s _ B rb x _ HR1.out HSH.out.nears hs)
    go_enter Tryz.func20, Tryz.ntmps20
    go_wp2_with fail
    refine HF.out.mono ?_
    rintro e w' ⟨rfl, rfl⟩
    go_wp2_with fail
    refine HC.out.mono ?_
    rintro e w5 ⟨hk, hm⟩
    cases hr : rNear s.data.toList with
    | none =>
      rw [hr] at hm
      simp only [Option.map_none] at hm
      subst hm
      have HNN := Lib.hid hr
      clear hr
      go_wp2
      go_ret
      exact PnRet.bad (HK1.out.trans hk) (by rw [HN.out, HNN.out]; rfl) rfl
    | some c =>
      rw [hr] at hm
      simp only [Option.map_some] at hm
      obtain ⟨rfl, x5, hx5⟩ := hm
      have HNN := Lib.hid hr
      clear hr
      go_wp2
      go_ret
      exact PnRet.good (HK1.out.trans hk) (by rw [HN.out, HNN.out]; rfl) rfl hx5
  · have HN := Lib.hid (show rLine st s.data.toList = none from by unfold rLine; rw [if_neg h0, if_neg hnc, if_pos hwd, if_neg h1])
    have hp1 : ¬ (st.part : Int) ≤ 2 := by omega
    clear h0 h1 hwd hnc
    go_enter Tryz.func20, Tryz.ntmps20
    go_wp2_with fail
    refine HF.out.mono ?_
    rintro e w' ⟨rfl, rfl⟩
    go_wp2
    go_ret
    exact PnRet.bad HK1.out HN.out rfl
theorem rline_every (h0 : st.part ≠ 0) (hwd : wordL s.data.toList = wdE) :
    Calls Tryz.prog 20 #[.pointer (some ⟨rb, 0, none⟩), .string s] w (PnRet B rb w (rLine st s.data.toList)) := by
  have H := Lib.hid h
  have HSH := Lib.hid hsh
  have r6 : w.cell? ⟨rb, 6, none⟩ = some (.int .i64 (st.part : Int)) := h.blk.cell 6
  have fr6 : w.frozen? ⟨rb, 6, none⟩ = false := h.blk.frozen 6
  have hrl := h.blk.lt
  clear h hsh
  have hp0 : ((st.part : Int) == 0) = false := by rw [beq_eq_false_iff_ne]; omega
  have hw0 : ((str (wordL s.data.toList)).toList == [99, 117, 114, 115, 111, 114]) = false := strC_no (by first | (rw [hwd]; decide) | exact hn0)
  have hw1 : ((str (wordL s.data.toList)).toList == [110, 101, 97, 114]) = false := strC_no (by first | (rw [hwd]; decide) | exact hn1)
  have hw2 : ((str (wordL s.data.toList)).toList == [101, 118, 101, 114, 121]) = true := strC_yes hwd
  have HF := Lib.hid (first_any s w (by omega))
  generalize hsw : str (wordL s.data.toList) = sw at *
  clear hsw
  have hnc : ¬ wordL s.data.toList = wdC := by rw [hwd]; decide
  have hnn : ¬ wordL s.data.toList = wdN := by rw [hwd]; decide
  have r3 : w.cell? ⟨rb, 3, none⟩ = some (.bool st.all) := H.out.blk.cell 3
  have fr3 : w.frozen? ⟨rb, 3, none⟩ = false := H.out.blk.frozen 3
  have HR1 := Lib.hid (show PtsAt ((w.setCell ⟨rb, 6, none⟩ (.int .i64 3)).setCell ⟨rb, 3, none⟩ (.bool true)) B rb x { st with all := true, part := 3 } from (H.out.setPart 3).setAll)
  have HK1 := Lib.hid ((RKeep.set_ B rb 6 w (.int .i64 3)).trans (RKeep.set_ B rb 3 _ (.bool true)))
  by_cases h1 : st.part ≤ 2
  · have hp1 : (st.part : Int) ≤ 2 := by omega
    by_cases h2 : s.data.toList = wdE
    · have HN := Lib.hid (show rLine st s.data.toList = some { st with all := true, part := 3 } from by unfold rLine; rw [if_neg h0, if_neg hnc, if_neg hnn, if_pos hwd, if_pos ⟨h1, h2⟩])
      have he : (s.toList == [101, 118, 101, 114, 121]) = true := by rw [baL_beq]; exact decide_eq_true h2
      clear h0 h1 h2 hwd hnc hnn
      go_enter Tryz.func20, Tryz.ntmps20
      go_wp2_with fail
      refine HF.out.mono ?_
      rintro e w' ⟨rfl, rfl⟩
      go_wp2
      go_ret
      exact PnRet.good HK1.out HN.out rfl HR1.out
    · have HN := Lib.hid (show rLine st s.data.toList = none from by unfold rLine; rw [if_neg h0, if_neg hnc, if_neg hnn, if_pos hwd, if_neg (fun g => h2 g.2)])
      have he : (s.toList == [101, 118, 101, 114, 121]) = false := by rw [baL_beq]; exact decide_eq_false h2
      clear h0 h1 h2 hwd hnc hnn
      go_enter Tryz.func20, Tryz.ntmps20
      go_wp2_with fail
      refine HF.out.mono ?_
      rintro e w' ⟨rfl, rfl⟩
      go_wp2
      go_ret
      exact PnRet.bad HK1.out HN.out rfl
  · have HN := Lib.hid (show rLine st s.data.toList = none from by unfold rLine; rw [if_neg h0, if_neg hnc, if_neg hnn, if_pos hwd, if_neg (fun g => h1 g.1)])
    have hp1 : ¬ (st.part : Int) ≤ 2 := by omega
    clear h0 h1 hwd hnc hnn
    go_enter Tryz.func20, Tryz.ntmps20
    go_wp2_with fail
    refine HF.out.mono ?_
    rintro e w' ⟨rfl, rfl⟩
    go_wp2
    go_ret
    exact PnRet.bad HK1.out HN.out rfl
theorem rline_code (h0 : st.part ≠ 0) (hn0 : wordL s.data.toList ≠ wdC) (hn1 : wordL s.data.toList ≠ wdN) (hn2 : wordL s.data.toList ≠ wdE) (hn3 : wordL s.data.toList ≠ wdD) :
    Calls Tryz.prog 20 #[.pointer (some ⟨rb, 0, none⟩), .string s] w (PnRet B rb w (rLine st s.data.toList)) := by
  have H := Lib.hid h
  have HSH := Lib.hid hsh
  have r6 : w.cell? ⟨rb, 6, none⟩ = some (.int .i64 (st.part : Int)) := h.blk.cell 6
  have fr6 : w.frozen? ⟨rb, 6, none⟩ = false := h.blk.frozen 6
  have hrl := h.blk.lt
  clear h hsh
  have hp0 : ((st.part : Int) == 0) = false := by rw [beq_eq_false_iff_ne]; omega
  have hw0 : ((str (wordL s.data.toList)).toList == [99, 117, 114, 115, 111, 114]) = false := strC_no (by exact hn0)
  have hw1 : ((str (wordL s.data.toList)).toList == [110, 101, 97, 114]) = false := strC_no (by exact hn1)
  have hw2 : ((str (wordL s.data.toList)).toList == [101, 118, 101, 114, 121]) = false := strC_no (by exact hn2)
  have hw3 : ((str (wordL s.data.toList)).toList == [100, 114, 105, 118, 101]) = false := strC_no (by exact hn3)
  have HF := Lib.hid (first_any s w (by omega))
  generalize hsw : str (wordL s.data.toList) = sw at *
  clear hsw
  have HN := Lib.hid (show rLine st s.data.toList = (rIns s.data.toList).map fun c => { st with code := st.code ++ [c], part := 5 } from by unfold rLine; rw [if_neg h0, if_neg hn0, if_neg hn1, if_neg hn2, if_neg hn3])
  have HR1 := Lib.hid (show PtsAt (w.setCell ⟨rb, 6, none⟩ (.int .i64 5)) B rb x { st with part := 5 } from H.out.setPart 5)
  have HK1 := Lib.hid (RKeep.set_ B rb 6 w (.int .i64 5))
  clear h0 hn0 hn1 hn2 hn3
  have HC := Lib.hid (rinstr_any s _ B rb x _ HR1.out HSH.out.code hs)
  go_enter Tryz.func20, Tryz.ntmps20
  go_wp2_with fail
  refine HF.out.mono ?_
  rintro e w' ⟨rfl, rfl⟩
  go_wp2_with fail
  refine HC.out.mono ?_
  rintro e w5 ⟨hk, hm⟩
  cases hr : rIns s.data.toList with
  | none =>
    rw [hr] at hm
    simp only [Option.map_none] at hm
    subst hm
    have HNN := Lib.hid hr
    clear hr
    go_wp2
    go_ret
    exact PnRet.bad (HK1.out.trans hk) (by rw [HN.out, HNN.out]; rfl) rfl
  | some c =>
    rw [hr] at hm
    simp only [Option.map_some] at hm
    obtain ⟨rfl, x5, hx5⟩ := hm
    have HNN := Lib.hid hr
    clear hr
    go_wp2
    go_ret
    exact PnRet.good (HK1.out.trans hk) (by rw [HN.out, HNN.out]; rfl) rfl hx5
end
end Go.Proofs.YtmdpfikalekmlaaGreatDoor
end
section
/- Layer 20, the document's reader: line, whole. -/
namespace Go.Proofs.YtmdpfikalekmlaaGreatDoor
open Go.RowKit
set_option maxRecDepth 100000
set_option maxHeartbeats 8000000
set_option linter.unusedSimpArgs false
set_option linter.unusedVariables false

section
variable (s : ByteArray) (w : World) (B rb : Nat) (x : RdrV) (st : Rs) (h : PtsAt w B rb x st) (hsh : Short st) (hs : s.size ≤ 1048576)
include h hsh hs
theorem rline_drive (h0 : st.part ≠ 0) (hwd : wordL s.data.toList = wdD) :
    Calls Tryz.prog 20 #[.pointer (some ⟨rb, 0, none⟩), .string s] w (PnRet B rb w (rLine st s.data.toList)) := by
  have H := Lib.hid h
  have HSH := Lib.hid hsh
  have r6 : w.cell? ⟨rb, 6, none⟩ = some (.int .i64 (st.part : Int)) := h.blk.cell 6
  have fr6 : w.frozen? ⟨rb, 6, none⟩ = false := h.blk.frozen 6
  have hrl := h.blk.lt
  clear h hsh
  have hp0 : ((st.part : Int) == 0) = false := by rw [beq_eq_false_iff_ne]; omega
  have hw0 : ((str (wordL s.data.toList)).toList == [99, 117, 114, 115, 111, 114]) = false := strC_no (by first | (rw [hwd]; decide) | exact hn0)
  have hw1 : ((str (wordL s.data.toList)).toList == [110, 101, 97, 114]) = false := strC_no (by first | (rw [hwd]; decide) | exact hn1)
  have hw2 : ((str (wordL s.data.toList)).toList == [101, 118, 101, 114, 121]) = false := strC_no (by first | (rw [hwd]; decide) | exact hn2)
  have hw3 : ((str (wordL s.data.toList)).toList == [100, 114, 105, 118, 101]) = true := strC_yes hwd
  have HF := Lib.hid (first_any s w (by omega))
  generalize hsw : str (wordL s.data.toList) = sw at *
  clear hsw
  have hnc : ¬ wordL s.data.toList = wdC := by rw [hwd]; decide
  have hnn : ¬ wordL s.data.toList = wdN := by rw [hwd]; decide
  have hne : ¬ wordL s.data.toList = wdE := by rw [hwd]; decide
  have HR1 := Lib.hid (show PtsAt (w.setCell ⟨rb, 6, none⟩ (.int .i64 4)) B rb x { st with part := 4 } from H.out.setPart 4)
  have HK1 := Lib.hid (RKeep.set_ B rb 6 w (.int .i64 4))
  by_cases h1 : st.part ≤ 3
  case neg =>
    have HN := Lib.hid (show rLine st s.data.toList = none from by unfold rLine; rw [if_neg h0, if_neg hnc, if_neg hnn, if_neg hne, if_pos hwd, if_neg h1])
    have hp1 : ¬ (st.part : Int) ≤ 3 := by omega
    clear h0 h1 hwd hnc hnn hne
    go_enter Tryz.func20, Tryz.ntmps20
    go_wp2_with fail
    refine HF.out.mono ?_
    rintro e w' ⟨rfl, rfl⟩
    go_wp2_with fail
    generalize (w.setCell ⟨rb, 6, none⟩ (.int .i64 4)) = wa at *
    refine (rnumbers_any s wa (by omega)).mono ?_
    rintro e w1 ⟨v1, rfl, ho1, hlt1, hle1, hb1⟩
    have HO1 := Lib.hid (RdL.of_own ho1); have HB1 := Lib.hid hb1; have HL1 := Lib.hid hlt1
    have hBs1 := hb1.size
    clear ho1 hb1 hlt1
    go_wp2_with fail
    refine (rints_any v1 _ w1 w1.heap.size (Nat.le_refl _) HO1.out (by omega) HL1.out).mono ?_
    rintro e w2 ⟨v2, rfl, ho2, hb2⟩
    have HB2 := Lib.hid (HB1.out.trans (hb2.mono hBs1))
    obtain ⟨A2, c2, rfl, hcp, hcm, -⟩ := ho2.open_
    have HO2 := Lib.hid ho2
    have HSM := Lib.hid (small_of (rints_small (numsL s.data.toList)))
    have hrn : (rints (numsL s.data.toList)).length ≤ 1048576 := by rw [rints_length]; omega
    clear ho2 hb2 HO1 HL1
    have HR2 := Lib.hid (HR1.out.below HB2.out)
    have HK2 := Lib.hid (HK1.out.trans (RKeep.ofW (rb := rb) HR1.out.hB HB2.out))
    have hB1 : B ≤ w1.heap.size := Nat.le_trans HR1.out.hB hBs1
    have HR3 := Lib.hid (HR2.out.setDrive (OwnL.more HO2.out hB1))
    have HK3 := Lib.hid (HK2.out.trans (RKeep.set_ B rb 4 w2 (.slice A2 (rints (numsL s.data.toList)).length c2)))
    have m4 : w2.cell? ⟨rb, 4, none⟩ = some x.dv := HR2.out.blk.cell 4
    have fm4 : w2.frozen? ⟨rb, 4, none⟩ = false := HR2.out.blk.frozen 4
    have hml := HR2.out.blk.lt
    go_wp2
    go_ret
    exact PnRet.bad HK3.out HN.out rfl
  have HN := Lib.hid (show rLine st s.data.toList = (match rNums wdD s.data.toList with
    | some (x :: l) => some { st with drive := x :: l, part := 4 }
    | _ => none) from by unfold rLine; rw [if_neg h0, if_neg hnc, if_neg hnn, if_neg hne, if_pos hwd, if_pos h1]; rcases rNums wdD s.data.toList with _ | ⟨_ | ⟨y, l⟩⟩ <;> rfl)
  have hp1 : (st.part : Int) ≤ 3 := by omega
  clear h0 h1 hwd hnc hnn hne
  have HRN := Lib.hid (show rNums wdD s.data.toList = if s.data.toList = lineL wdD (rints (numsL s.data.toList)) then some (rints (numsL s.data.toList)) else none from rfl)
  go_enter Tryz.func20, Tryz.ntmps20
  go_wp2_with fail
  refine HF.out.mono ?_
  rintro e w' ⟨rfl, rfl⟩
  go_wp2_with fail
  generalize (w.setCell ⟨rb, 6, none⟩ (.int .i64 4)) = wa at *
  refine (rnumbers_any s wa (by omega)).mono ?_
  rintro e w1 ⟨v1, rfl, ho1, hlt1, hle1, hb1⟩
  have HO1 := Lib.hid (RdL.of_own ho1); have HB1 := Lib.hid hb1; have HL1 := Lib.hid hlt1
  have hBs1 := hb1.size
  clear ho1 hb1 hlt1
  go_wp2_with fail
  refine (rints_any v1 _ w1 w1.heap.size (Nat.le_refl _) HO1.out (by omega) HL1.out).mono ?_
  rintro e w2 ⟨v2, rfl, ho2, hb2⟩
  have HB2 := Lib.hid (HB1.out.trans (hb2.mono hBs1))
  obtain ⟨A2, c2, rfl, hcp, hcm, -⟩ := ho2.open_
  have HO2 := Lib.hid ho2
  have HSM := Lib.hid (small_of (rints_small (numsL s.data.toList)))
  have hrn : (rints (numsL s.data.toList)).length ≤ 1048576 := by rw [rints_length]; omega
  clear ho2 hb2 HO1 HL1
  have HR2 := Lib.hid (HR1.out.below HB2.out)
  have HK2 := Lib.hid (HK1.out.trans (RKeep.ofW (rb := rb) HR1.out.hB HB2.out))
  have hB1 : B ≤ w1.heap.size := Nat.le_trans HR1.out.hB hBs1
  have HR3 := Lib.hid (HR2.out.setDrive (OwnL.more HO2.out hB1))
  have HK3 := Lib.hid (HK2.out.trans (RKeep.set_ B rb 4 w2 (.slice A2 (rints (numsL s.data.toList)).length c2)))
  have m4 : w2.cell? ⟨rb, 4, none⟩ = some x.dv := HR2.out.blk.cell 4
  have fm4 : w2.frozen? ⟨rb, 4, none⟩ = false := HR2.out.blk.frozen 4
  have hml := HR2.out.blk.lt
  have HWD := Lib.hid (show ∀ W, RdL intS W W.heap.size (.slice A2 (rints (numsL s.data.toList)).length c2) (rints (numsL s.data.toList)) → Calls Tryz.prog 51 #[.string ⟨#[100, 114, 105, 118, 101]⟩, .slice A2 (rints (numsL s.data.toList)).length c2] W fun e w' => e = .returned (.string (str (lineL wdD (rints (numsL s.data.toList))))) ∧ Below W.heap.size W w' from
    fun W hW => words_any wdD _ _ W W.heap.size (Nat.le_refl _) hW HSM.out.1 HSM.out.2 (by decide) (by omega))
  have HEQ := Lib.hid (show (s.toList == (str (lineL wdD (rints (numsL s.data.toList)))).toList) = decide (s.data.toList = lineL wdD (rints (numsL s.data.toList))) from by
    rw [Bool.eq_iff_iff, beq_iff_eq, decide_eq_true_iff, ByteArray.toList_eq, ByteArray.toList_eq, str_data])
  generalize rints (numsL s.data.toList) = rl at *
  rcases rl with _ | ⟨y, l⟩
  · have HN2 := Lib.hid (show rLine st s.data.toList = none from by
      rw [HN.out, HRN.out]
      split
      · rename_i hh
        split at hh <;> cases hh
      · rfl)
    clear HWD HEQ
    go_wp2
    go_ret
    exact PnRet.bad HK3.out HN2.out rfl
  · have hll : (0 : Int) < ((y :: l).length : Int) := by rw [List.length_cons]; omega
    generalize hyl : y :: l = yl at *
    go_wp2_with fail
    generalize (w2.setCell ⟨rb, 4, none⟩ (.slice A2 yl.length c2)) = w3 at *
    have HRD := Lib.hid (RdL.of_own HR3.out.drive)
    have k4 : w3.cell? ⟨rb, 4, none⟩ = some (.slice A2 yl.length c2) := HR3.out.blk.cell 4
    (try go_wp2_with fail)
    refine (HWD.out w3 HRD.out).mono ?_
    rintro e w4 ⟨rfl, hb4⟩
    have HK4 := Lib.hid (HK3.out.trans (RKeep.ofW HR3.out.hB hb4))
    have HR4 := Lib.hid (HR3.out.below hb4)
    clear hb4
    by_cases hcmp : s.data.toList = lineL wdD yl
    · have heq : (s.toList == (str (lineL wdD yl)).toList) = true := by rw [HEQ.out]; exact decide_eq_true hcmp
      rw [if_pos hcmp] at HRN
      clear hcmp HEQ
      generalize str (lineL wdD yl) = sl at *
      go_wp2
      go_ret
      exact PnRet.good HK4.out (by rw [HN.out, HRN.out, ← hyl]) rfl HR4.out
    · have heq : (s.toList == (str (lineL wdD yl)).toList) = false := by rw [HEQ.out]; exact decide_eq_false hcmp
      rw [if_neg hcmp] at HRN
      clear hcmp HEQ
      generalize str (lineL wdD yl) = sl at *
      go_wp2
      go_ret
      exact PnRet.bad HK4.out (by rw [HN.out, HRN.out]) rfl
theorem rdline_any :
    Calls Tryz.prog 20 #[.pointer (some ⟨rb, 0, none⟩), .string s] w (PnRet B rb w (rLine st s.data.toList)) := by
  by_cases h0 : st.part = 0
  · exact rline_avgs s w B rb x st h hsh hs h0
  by_cases h1 : wordL s.data.toList = wdC
  · exact rline_cur s w B rb x st h hsh hs h0 h1
  by_cases h2 : wordL s.data.toList = wdN
  · exact rline_near s w B rb x st h hsh hs h0 h2
  by_cases h3 : wordL s.data.toList = wdE
  · exact rline_every s w B rb x st h hsh hs h0 h3
  by_cases h4 : wordL s.data.toList = wdD
  · exact rline_drive s w B rb x st h hsh hs h0 h4
  exact rline_code s w B rb x st h hsh hs h0 h1 h2 h3 h4
end
end Go.Proofs.YtmdpfikalekmlaaGreatDoor
end
section
/- Layer 20, the document's Read. -/
namespace Go.Proofs.YtmdpfikalekmlaaGreatDoor
open Go.RowKit
set_option maxRecDepth 100000
set_option maxHeartbeats 40000000
set_option linter.unusedSimpArgs false
set_option linter.unusedVariables false

/-- What the document's Read hands back. -/
def RrRet (r : Sum Pg Nat) (w : World) (e : Ending) (w' : World) : Prop :=
  Below w.heap.size w w' ∧ match r with
    | .inl p => ∃ x, e = .returned (.tuple #[x.val p, .int .i64 0, .int .i64 0]) ∧ PgO w' w.heap.size x p
    | .inr n => e = .returned (.tuple #[pgZero, .int .i64 (n : Int), .int .i64 16])
theorem rrRet_ok {r : Sum Pg Nat} {w : World} {e : Ending} {w' : World} (hb : Below w.heap.size w w') {p : Pg} (hr : r = .inl p) (x : PgV) (he : e = .returned (.tuple #[x.val p, .int .i64 0, .int .i64 0])) (ho : PgO w' w.heap.size x p) : RrRet r w e w' := by
  subst hr; exact ⟨hb, x, he, ho⟩
theorem rrRet_bad {r : Sum Pg Nat} {w : World} {e : Ending} {w' : World} (hb : Below w.heap.size w w') {n : Nat} (hr : r = .inr n) (he : e = .returned (.tuple #[pgZero, .int .i64 (n : Int), .int .i64 16])) : RrRet r w e w' := by
  subst hr; exact ⟨hb, he⟩
theorem splitS_no {s : UInt8} : ∀ {l : List UInt8}, s ∉ l → splitS s l = [l]
  | [], _ => rfl
  | c :: r, h => by
    have hc : ¬ c = s := fun e => h (by rw [e]; exact List.mem_cons_self)
    have hr := splitS_no (s := s) (l := r) (fun hm => h (List.mem_cons_of_mem _ hm))
    rw [splitS, if_neg hc, hr]
theorem linesR_snoc {L : List (List UInt8)} {y : List UInt8} {st : Rs} (h : linesR rs0 0 L = .inl st) : linesR rs0 0 (L ++ [y]) = match lineR st y with
    | some st' => .inl st'
    | none => .inr (L.length + 1) := by
  rw [linesR_append, h]
  show linesR st (0 + L.length) [y] = _
  rw [Nat.zero_add, linesR]
  cases lineR st y <;> rfl
theorem read_bad1 {t : List UInt8} {L : List (List UInt8)} {y : List UInt8} {rest : List (List UInt8)} {st : Rs} (hs : splitS 10 t = L ++ y :: rest) (hne : rest ≠ []) (h : linesR rs0 0 L = .inl st) (hl : lineR st y = none) : readP t = .inr (L.length + 1) := by
  unfold readP
  simp only []
  have hd : (splitS 10 t).dropLast = (L ++ [y]) ++ rest.dropLast := by
    rw [hs, List.dropLast_append_of_ne_nil (by simp), List.dropLast_cons_of_ne_nil hne, List.append_assoc]; rfl
  have h2 := linesR_snoc (y := y) h
  rw [hl] at h2
  rw [hd, linesR_append, h2]
theorem read_bad2 {t : List UInt8} {L : List (List UInt8)} {y : List UInt8} {st : Rs} (hs : splitS 10 t = L ++ [y]) (h : linesR rs0 0 L = .inl st) (hb : y ≠ [] ∨ L.length = 0) : readP t = .inr (L.length + 1) := by
  unfold readP
  simp only []
  rw [hs]
  rw [List.dropLast_concat, h]
  simp only [List.getLast?_append, List.getLast?_singleton, List.length_append, List.length_singleton]
  rw [if_pos]
  rcases hb with hb | hb
  · left; simpa using hb
  · right; omega
theorem read_ok {t : List UInt8} {L : List (List UInt8)} {st : Rs} (hs : splitS 10 t = L ++ [[]]) (h : linesR rs0 0 L = .inl st) (hL : L.length ≠ 0) : readP t = .inl ⟨st.avgs, st.curs, st.nears, st.all, st.drive, if st.code.all insOk = true then encI st.code else []⟩ := by
  unfold readP
  simp only []
  rw [hs]
  rw [List.dropLast_concat, h]
  simp only [List.getLast?_append, List.getLast?_singleton, List.length_append, List.length_singleton]
  rw [if_neg]
  rintro (hb | hb)
  · simp at hb
  · omega
theorem PgO.setX {w : World} {B b : Nat} {x : PgV} {p : Pg} {cs : Array Value} (h : PgO w B x p) (hb : Blk w b 63 cs) (o : Nat) (u : Value) : PgO (w.setCell ⟨b, o, none⟩ u) B x p := by
  have hc := ownB_iff.1 h.code
  exact ⟨h.avgs.farNe (h.avgs.offBlk hb (by decide)) _, h.curs.farNe (h.curs.offBlk hb (by decide)) _, h.nears.farNe (h.nears.offBlk hb (by decide)) _, h.nmap,
    fun y hy => ⟨(h.inner y hy).1.farNe ((h.inner y hy).1.offBlk hb (by decide)) _, (h.inner y hy).2.farNe ((h.inner y hy).2.offBlk hb (by decide)) _⟩, h.drive.farNe (h.drive.offBlk hb (by decide)) _, ownB_iff.2 (hc.farNe (hc.offBlk hb (by decide)) _)⟩
/-- The reader between two bytes: L the lines taken, fr where the next begins. -/
structure RdS (t : List UInt8) (W0 : World) (B rb : Nat) (L : List (List UInt8)) (k fr : Nat) (x : RdrV) (st : Rs) (wr : World) : Prop where
  frk : fr ≤ k
  kt : k ≤ t.length
  sp : splitS 10 t = L ++ splitS 10 (t.drop fr)
  no : (10 : UInt8) ∉ (t.drop fr).take (k - fr)
  ln : linesR rs0 0 L = .inl st
  at_ : PtsAt wr B rb x (trR st)
  kp : RKeep B rb W0 wr
  c1 : st.curs.length ≤ L.length
  c2 : st.nears.length ≤ L.length
  c3 : st.code.length ≤ L.length
  lk : L.length ≤ fr
def RdRel (t : List UInt8) (W0 : World) (B rb : Nat) (nv fv iv : Value) (wr : World) : Prop :=
  ∃ (L : List (List UInt8)) (k fr : Nat) (x : RdrV) (st : Rs), nv = .int .i64 (L.length : Int) ∧ fv = .int .i64 (fr : Int) ∧ iv = .int .i64 (k : Int) ∧ RdS t W0 B rb L k fr x st wr
theorem RdS.step {t : List UInt8} {W0 : World} {B rb : Nat} {L : List (List UInt8)} {k fr : Nat} {x : RdrV} {st : Rs} {wr : World} (h : RdS t W0 B rb L k fr x st wr) (hk : k < t.length) (hc : t[k] ≠ 10) : RdS t W0 B rb L (k + 1) fr x st wr := by
  have h1 := h.frk
  refine { h with frk := by omega, kt := hk, no := ?_ }
  have e : k + 1 - fr = (k - fr) + 1 := by omega
  have hlt : k - fr < (t.drop fr).length := by rw [List.length_drop]; omega
  rw [e, List.take_succ_eq_append_getElem hlt]
  intro hm
  rcases List.mem_append.1 hm with hm | hm
  · exact h.no hm
  · rw [List.mem_singleton, List.getElem_drop] at hm
    have e2 : fr + (k - fr) = k := by omega
    simp only [e2] at hm
    exact hc hm.symm
theorem RdS.split {t : List UInt8} {W0 : World} {B rb : Nat} {L : List (List UInt8)} {k fr : Nat} {x : RdrV} {st : Rs} {wr : World} (h : RdS t W0 B rb L k fr x st wr) (hk : k < t.length) (hc : t[k] = 10) : splitS 10 t = L ++ ((t.drop fr).take (k - fr)) :: splitS 10 (t.drop (k + 1)) := by
  have h1 := h.frk
  rw [h.sp]
  congr 1
  have e : t.drop fr = (t.drop fr).take (k - fr) ++ 10 :: t.drop (k + 1) := by
    conv => lhs; rw [← List.take_append_drop (k - fr) (t.drop fr), List.drop_drop]
    congr 1
    rw [show fr + (k - fr) = k from by omega, List.drop_eq_getElem_cons hk, hc]
  conv => lhs; rw [e]
  exact splitS_app _ h.no
theorem trR_short {st : Rs} {n : Nat} (h1 : st.curs.length ≤ n) (h2 : st.nears.length ≤ n) (h3 : st.code.length ≤ n) (hn : n ≤ 1000000000) : Short (trR st) := ⟨Nat.le_trans h1 hn, Nat.le_trans h2 hn, Nat.le_trans h3 hn⟩
theorem rread_any (s : ByteArray) (w : World) (hs : s.size ≤ 1048576) :
    Calls Tryz.prog 7 #[.string s] w (RrRet (readP s.data.toList) w) := by
  have hsz : s.data.toList.length = s.size := (ba_size s).symm
  have HSZ := Lib.hid hsz
  clear hsz
  obtain ⟨W2, hW2⟩ : ∃ W2, (w.alloc (.cells #[.slice none 0 0, .slice none 0 0, .slice none 0 0, .bool false, .slice none 0 0, .slice none 0 0] 28)).alloc (.cells #[.slice none 0 0, .slice none 0 0, .slice none 0 0, .bool false, .slice none 0 0, .slice none 0 0, .int .i64 0, .slice none 0 0] 63) = W2 := ⟨_, rfl⟩
  have hs2 : W2.heap.size = w.heap.size + 2 := by rw [← hW2, World.size_alloc, World.size_alloc]
  have HBW := Lib.hid (show Below w.heap.size w W2 from by rw [← hW2]; exact ((Below.refl _ _).alloc (Nat.le_refl _) _).alloc (by rw [World.size_alloc]; exact Nat.le_succ _) _)
  have HBK := Lib.hid (show Blk W2 w.heap.size 28 #[.slice none 0 0, .slice none 0 0, .slice none 0 0, .bool false, .slice none 0 0, .slice none 0 0] from by rw [← hW2]; exact (Blk.new w _ _).alloc _)
  have HPT := Lib.hid (show PtsAt W2 (w.heap.size + 2) (w.heap.size + 1) rdr0 (trR rs0) from by
    refine ⟨?_, OwnL.nil _ _ _, OwnL.nil _ _ _, OwnL.nil _ _ _, rfl, fun y hy => (by cases hy), OwnL.nil _ _ _, OwnL.nil _ _ _, by omega, by omega⟩
    have h := Blk.new (w.alloc (.cells #[.slice none 0 0, .slice none 0 0, .slice none 0 0, .bool false, .slice none 0 0, .slice none 0 0] 28)) 63 #[.slice none 0 0, .slice none 0 0, .slice none 0 0, .bool false, .slice none 0 0, .slice none 0 0, .int .i64 0, .slice none 0 0]
    rw [World.size_alloc, hW2] at h
    exact h)
  go_enter Tryz.func7, Tryz.ntmps7
  go_wp2
  clear hW2
  go_loopw [6, 7, 8] (fun nv fv iv wr => RdRel s.data.toList W2 (w.heap.size + 2) (w.heap.size + 1) nv fv iv wr) (fun _ _ iv _ => s.size - (intOf iv).toNat)
  case atStart => exact ⟨[], 0, 0, rdr0, rs0, rfl, rfl, rfl, Nat.le_refl _, Nat.zero_le _, by simp, by simp, rfl, HPT.out, RKeep.refl _ _ _, by simp [rs0], by simp [rs0], by simp [rs0], Nat.le_refl _⟩
  case round =>
    obtain ⟨L, k, fr, x, st, rfl, rfl, rfl, hS⟩ := hrel
    have HS := Lib.hid hS
    have hfk := hS.frk
    have hkt := hS.kt
    have hlk := hS.lk
    rw [HSZ.out] at hkt
    have hkz := hS.kp.size
    have hbr : Below w.heap.size w wr := HBW.out.trans (hS.kp.below (by omega) (by omega))
    have HBR := Lib.hid hbr
    have HBZ := Lib.hid (show Blk wr w.heap.size 28 #[.slice none 0 0, .slice none 0 0, .slice none 0 0, .bool false, .slice none 0 0, .slice none 0 0] from (hS.kp.kept w.heap.size (by omega) (by omega)).trans HBK.out)
    clear hS hbr
    by_cases hlt : k < s.size
    · have hl : k < s.data.toList.length := by rw [HSZ.out]; exact hlt
      have hbx := u8_lt s[k]
      by_cases hc : s[k] = 10
      case neg =>
        have hci : ((s[k].toNat : Int) == 10) = false := by
          rw [beq_eq_false_iff_ne]
          intro h
          exact hc (UInt8.toNat_inj.1 (by show s[k].toNat = 10; omega))
        have hci2 : ((s[k].toNat : Int) != 10) = true := by rw [bne, hci]; rfl
        have HS2 := Lib.hid (HS.out.step hl (by exact hc))
        clear hc
        go_wp2
        go_roundw
        case rel => exact ⟨L, k + 1, fr, x, st, rfl, rfl, by go_num, HS2.out⟩
        case measure => simp [intOf]; omega
      have hci : (s[k].toNat : Int) = 10 := by rw [hc]; rfl
      have HSP := Lib.hid (HS.out.split hl (by exact hc))
      have HY := Lib.hid (show (s.extract fr k).data.toList = (s.data.toList.drop fr).take (k - fr) from Lib.extract_data s fr k)
      have hyl : ((s.data.toList.drop fr).take (k - fr)).length ≤ 1048576 := by rw [List.length_take, List.length_drop, HSZ.out]; omega
      have hcall := rdline_any (s.extract fr k) wr (w.heap.size + 2) (w.heap.size + 1) x (trR st) HS.out.at_ (trR_short HS.out.c1 HS.out.c2 HS.out.c3 (by omega)) (by rw [ba_size, HY.out]; exact hyl)
      rw [HY.out, rLine_eq] at hcall
      have HCA := Lib.hid hcall
      clear hcall hc hyl
      generalize (s.data.toList.drop fr).take (k - fr) = y at *
      have hf2 : (0 : Int) ≤ (fr : Int) ∧ (fr : Int) ≤ (k : Int) := by omega
      cases hlr : lineR st y with
      | none =>
        have HBAD := Lib.hid (read_bad1 HSP.out (splitS_ne _ _) HS.out.ln hlr)
        have HLR := Lib.hid hlr
        clear hlr
        go_wp2_with fail
        refine HCA.out.mono ?_
        intro e w4 h4
        unfold PnRet at h4
        rw [HLR.out] at h4
        simp only [Option.map_none] at h4
        obtain ⟨hk4, rfl⟩ := h4
        have HB4 := Lib.hid (HBR.out.trans (hk4.below (by omega) (by omega)))
        have HBZ4 := Lib.hid (show Blk w4 w.heap.size 28 #[.slice none 0 0, .slice none 0 0, .slice none 0 0, .bool false, .slice none 0 0, .slice none 0 0] from (hk4.kept w.heap.size (by omega) (by omega)).trans HBZ.out)
        clear hk4
        have hBl := HBZ4.out
        have p0 := hBl.cell 0
        have p1 := hBl.cell 1
        have p2 := hBl.cell 2
        have p3 := hBl.cell 3
        have p4 := hBl.cell 4
        have p5 := hBl.cell 5
        have fp0 := hBl.frozen 0
        have fp1 := hBl.frozen 1
        have fp2 := hBl.frozen 2
        have fp3 := hBl.frozen 3
        have fp4 := hBl.frozen 4
        have fp5 := hBl.frozen 5
        simp only [List.getElem?_toArray, List.getElem?_cons_zero, List.getElem?_cons_succ] at p0 p1 p2 p3 p4 p5
        clear hBl
        go_wp2
        refine bodyPost_ret (v := .tuple #[pgZero, .int .i64 ((L.length : Int) + 1), .int .i64 16]) ?_ rfl ?_
        · simp [results, Tryz.results7, go_sem, pgZero, p0, p1, p2, p3, p4, p5]
        · exact rrRet_bad ((((((HB4.out.setCell (p := ⟨w.heap.size, 0, none⟩) (Nat.le_refl _) (.slice none 0 0)).setCell (p := ⟨w.heap.size, 1, none⟩) (Nat.le_refl _) (.slice none 0 0)).setCell (p := ⟨w.heap.size, 2, none⟩) (Nat.le_refl _) (.slice none 0 0)).setCell (p := ⟨w.heap.size, 3, none⟩) (Nat.le_refl _) (.bool false)).setCell (p := ⟨w.heap.size, 4, none⟩) (Nat.le_refl _) (.slice none 0 0)).setCell (p := ⟨w.heap.size, 5, none⟩) (Nat.le_refl _) (.slice none 0 0)) HBAD.out rfl
      | some st1 =>
        have h2 := linesR_snoc (y := y) HS.out.ln
        rw [hlr] at h2
        obtain ⟨g1, g2, g3⟩ := lineR_grows hlr
        have HG := Lib.hid (show st1.curs.length ≤ L.length + 1 ∧ st1.nears.length ≤ L.length + 1 ∧ st1.code.length ≤ L.length + 1 from by have := HS.out.c1; have := HS.out.c2; have := HS.out.c3; omega)
        have HL2 := Lib.hid h2
        have HLR := Lib.hid hlr
        clear hlr h2 g1 g2 g3
        go_wp2_with fail
        refine HCA.out.mono ?_
        intro e w4 h4
        unfold PnRet at h4
        rw [HLR.out] at h4
        simp only [Option.map_some] at h4
        obtain ⟨hk4, rfl, x', hx'⟩ := h4
        have HX4 := Lib.hid hx'
        have HK4 := Lib.hid (HS.out.kp.trans hk4)
        clear hk4 hx'
        go_wp2
        go_roundw
        case rel => exact ⟨L ++ [y], k + 1, k + 1, x', st1, by simp, by go_num, by go_num, ⟨Nat.le_refl _, by rw [HSZ.out]; exact hlt, by rw [HSP.out]; simp, by simp, HL2.out, HX4.out, HK4.out, by simpa using HG.out.1, by simpa using HG.out.2.1, by simpa using HG.out.2.2, by simp; omega⟩⟩
        case measure => simp [intOf]; omega
    · have hke : k = s.size := by omega
      have HSP := Lib.hid (show splitS 10 s.data.toList = L ++ [s.data.toList.drop fr] from by
        rw [HS.out.sp, splitS_no]
        have h := HS.out.no
        rw [List.take_of_length_le (by rw [List.length_drop, HSZ.out]; omega)] at h
        exact h)
      by_cases hfr : fr < s.size
      · have HBAD := Lib.hid (read_bad2 HSP.out HS.out.ln (.inl (fun e => by have := congrArg List.length e; rw [List.length_drop, HSZ.out] at this; simp at this; omega)))
        clear hke
        have hBl := HBZ.out
        have p0 := hBl.cell 0
        have p1 := hBl.cell 1
        have p2 := hBl.cell 2
        have p3 := hBl.cell 3
        have p4 := hBl.cell 4
        have p5 := hBl.cell 5
        have fp0 := hBl.frozen 0
        have fp1 := hBl.frozen 1
        have fp2 := hBl.frozen 2
        have fp3 := hBl.frozen 3
        have fp4 := hBl.frozen 4
        have fp5 := hBl.frozen 5
        simp only [List.getElem?_toArray, List.getElem?_cons_zero, List.getElem?_cons_succ] at p0 p1 p2 p3 p4 p5
        clear hBl
        go_wp2
        refine bodyPost_ret (v := .tuple #[pgZero, .int .i64 ((L.length : Int) + 1), .int .i64 16]) ?_ rfl ?_
        · simp [results, Tryz.results7, go_sem, pgZero, p0, p1, p2, p3, p4, p5]
        · exact rrRet_bad ((((((HBR.out.setCell (p := ⟨w.heap.size, 0, none⟩) (Nat.le_refl _) (.slice none 0 0)).setCell (p := ⟨w.heap.size, 1, none⟩) (Nat.le_refl _) (.slice none 0 0)).setCell (p := ⟨w.heap.size, 2, none⟩) (Nat.le_refl _) (.slice none 0 0)).setCell (p := ⟨w.heap.size, 3, none⟩) (Nat.le_refl _) (.bool false)).setCell (p := ⟨w.heap.size, 4, none⟩) (Nat.le_refl _) (.slice none 0 0)).setCell (p := ⟨w.heap.size, 5, none⟩) (Nat.le_refl _) (.slice none 0 0)) HBAD.out rfl
      by_cases hL : L.length = 0
      · have HBAD := Lib.hid (read_bad2 HSP.out HS.out.ln (.inr hL))
        have hLi : (L.length : Int) = 0 := by omega
        have hLb : ((L.length : Int) == 0) = true := by rw [beq_iff_eq]; exact hLi
        clear hke hL
        have hBl := HBZ.out
        have p0 := hBl.cell 0
        have p1 := hBl.cell 1
        have p2 := hBl.cell 2
        have p3 := hBl.cell 3
        have p4 := hBl.cell 4
        have p5 := hBl.cell 5
        have fp0 := hBl.frozen 0
        have fp1 := hBl.frozen 1
        have fp2 := hBl.frozen 2
        have fp3 := hBl.frozen 3
        have fp4 := hBl.frozen 4
        have fp5 := hBl.frozen 5
        simp only [List.getElem?_toArray, List.getElem?_cons_zero, List.getElem?_cons_succ] at p0 p1 p2 p3 p4 p5
        clear hBl
        go_wp2
        refine bodyPost_ret (v := .tuple #[pgZero, .int .i64 ((L.length : Int) + 1), .int .i64 16]) ?_ rfl ?_
        · simp [results, Tryz.results7, go_sem, pgZero, p0, p1, p2, p3, p4, p5, hLi]
        · exact rrRet_bad ((((((HBR.out.setCell (p := ⟨w.heap.size, 0, none⟩) (Nat.le_refl _) (.slice none 0 0)).setCell (p := ⟨w.heap.size, 1, none⟩) (Nat.le_refl _) (.slice none 0 0)).setCell (p := ⟨w.heap.size, 2, none⟩) (Nat.le_refl _) (.slice none 0 0)).setCell (p := ⟨w.heap.size, 3, none⟩) (Nat.le_refl _) (.bool false)).setCell (p := ⟨w.heap.size, 4, none⟩) (Nat.le_refl _) (.slice none 0 0)).setCell (p := ⟨w.heap.size, 5, none⟩) (Nat.le_refl _) (.slice none 0 0)) HBAD.out rfl
      have HOK := Lib.hid (read_ok (by rw [HSP.out, List.drop_eq_nil_of_le (by rw [HSZ.out]; omega)]) HS.out.ln hL)
      have hLb : ((L.length : Int) == 0) = false := by rw [beq_eq_false_iff_ne]; omega
      obtain ⟨av, cv, nv, dv, kv, nl⟩ := x
      have hR := HS.out.at_
      obtain ⟨aA, ac, rfl, -, -, -⟩ := hR.avgs.open_
      obtain ⟨cA, cc, rfl, -, -, -⟩ := hR.curs.open_
      obtain ⟨nA, nc, hnv, -, -, -⟩ := hR.nears.open_
      simp only at hnv
      subst hnv
      obtain ⟨dA, dc, rfl, -, -, -⟩ := hR.drive.open_
      obtain ⟨kA, kc, rfl, -, -, -⟩ := hR.code.open_
      have r7 := hR.blk.cell 7
      simp only [List.getElem?_toArray, List.getElem?_cons_zero, List.getElem?_cons_succ] at r7
      have hrl := hR.blk.lt
      have hcode := RdL.of_own hR.code
      have HENC := Lib.hid (riencode_any _ _ wr _ (Nat.le_refl _) hcode (by have := HS.out.c3; show st.code.length ≤ _; omega) (show SmallIns (trR st).code from linesR_code (st := st) HS.out.ln))
      have HR := Lib.hid hR
      clear hR hcode hke hL
      go_wp2_with fail
      refine HENC.out.mono ?_
      rintro e w6 ⟨v, rfl, ho, hb6⟩
      have ho2 : OwnB w6 wr.heap.size v (if st.code.all insOk = true then encI st.code else []) := ho
      clear ho
      generalize (if st.code.all insOk = true then encI st.code else []) = m at *
      obtain ⟨er, her⟩ : ∃ er, (if (trR st).code.all insOk = true then Value.int .i64 0 else Value.int .i64 21) = er := ⟨_, rfl⟩
      rw [her]
      clear her
      obtain ⟨vA, vc, rfl⟩ := ownB_form ho2
      have HO := Lib.hid ho2; have HB6 := Lib.hid hb6
      have hR6 := HR.out.below hb6
      have HR6 := Lib.hid hR6
      have r0 := hR6.blk.cell 0; have r1 := hR6.blk.cell 1; have r2 := hR6.blk.cell 2; have r3 := hR6.blk.cell 3; have r4 := hR6.blk.cell 4; have r5 := hR6.blk.cell 5
      have q5 := hR6.blk.frozen 5
      have hrl6 := hR6.blk.lt
      simp only [List.getElem?_toArray, List.getElem?_cons_zero, List.getElem?_cons_succ] at r0 r1 r2 r3 r4 r5
      have hBz := HBZ.out.belowW hb6
      have HBZ6 := Lib.hid hBz
      have s0 := hBz.cell 0
      have s1 := hBz.cell 1
      have s2 := hBz.cell 2
      have s3 := hBz.cell 3
      have s4 := hBz.cell 4
      have s5 := hBz.cell 5
      have fs0 := hBz.frozen 0
      have fs1 := hBz.frozen 1
      have fs2 := hBz.frozen 2
      have fs3 := hBz.frozen 3
      have fs4 := hBz.frozen 4
      have fs5 := hBz.frozen 5
      simp only [List.getElem?_toArray, List.getElem?_cons_zero, List.getElem?_cons_succ] at s0 s1 s2 s3 s4 s5
      have hgz : ¬ w.heap.size = w.heap.size + 1 := by omega
      have hgz2 : ¬ w.heap.size + 1 = w.heap.size := by omega
      clear ho2 hb6 hBz hR6 r7
      go_wp2
      have hP0 : PgO w6 w.heap.size ⟨.slice aA st.avgs.length ac, .slice cA st.curs.length cc, .slice nA nl.length nc, .slice dA st.drive.length dc, .slice vA m.length vc, nl⟩ ⟨st.avgs, st.curs, st.nears, st.all, st.drive, m⟩ := by
        have hR := HR6.out
        have hle : w.heap.size ≤ w.heap.size + 2 := by omega
        exact ⟨hR.avgs.more hle, hR.curs.more hle, hR.nears.more hle, hR.nmap, fun z hz => ⟨(hR.inner z hz).1.more hle, (hR.inner z hz).2.more hle⟩, hR.drive.more hle, ownB_iff.2 ((ownB_iff.1 HO.out).more HBR.out.size)⟩
      have hP1 := hP0.setX HR6.out.blk 5 (.slice vA m.length vc)
      have hq1 : PgBlk (w6.setCell ⟨w.heap.size + 1, 5, none⟩ (.slice vA m.length vc)) w.heap.size := PgBlk.set_ ⟨_, HBZ6.out⟩ (w.heap.size + 1) 5 (.slice vA m.length vc)
      have hP2 := hP1.set_ hq1 0 (.slice aA st.avgs.length ac)
      have hq2 := hq1.set_ w.heap.size 0 (.slice aA st.avgs.length ac)
      have hP3 := hP2.set_ hq2 1 (.slice cA st.curs.length cc)
      have hq3 := hq2.set_ w.heap.size 1 (.slice cA st.curs.length cc)
      have hP4 := hP3.set_ hq3 2 (.slice nA nl.length nc)
      have hq4 := hq3.set_ w.heap.size 2 (.slice nA nl.length nc)
      have hP5 := hP4.set_ hq4 3 (.bool st.all)
      have hq5 := hq4.set_ w.heap.size 3 (.bool st.all)
      have hP6 := hP5.set_ hq5 4 (.slice dA st.drive.length dc)
      have hq6 := hq5.set_ w.heap.size 4 (.slice dA st.drive.length dc)
      have hP7 := hP6.set_ hq6 5 (.slice vA m.length vc)
      have hq7 := hq6.set_ w.heap.size 5 (.slice vA m.length vc)
      have HB7 := ((((((((HBR.out.trans (HB6.out.mono HBR.out.size)).setCell (p := ⟨w.heap.size + 1, 5, none⟩) (Nat.le_succ _) (.slice vA m.length vc)).setCell (p := ⟨w.heap.size, 0, none⟩) (Nat.le_refl _) (.slice aA st.avgs.length ac)).setCell (p := ⟨w.heap.size, 1, none⟩) (Nat.le_refl _) (.slice cA st.curs.length cc)).setCell (p := ⟨w.heap.size, 2, none⟩) (Nat.le_refl _) (.slice nA nl.length nc)).setCell (p := ⟨w.heap.size, 3, none⟩) (Nat.le_refl _) (.bool st.all)).setCell (p := ⟨w.heap.size, 4, none⟩) (Nat.le_refl _) (.slice dA st.drive.length dc)).setCell (p := ⟨w.heap.size, 5, none⟩) (Nat.le_refl _) (.slice vA m.length vc))
      refine bodyPost_ret (v := .tuple #[PgV.val ⟨.slice aA st.avgs.length ac, .slice cA st.curs.length cc, .slice nA nl.length nc, .slice dA st.drive.length dc, .slice vA m.length vc, nl⟩ ⟨st.avgs, st.curs, st.nears, st.all, st.drive, m⟩, .int .i64 0, .int .i64 0]) ?_ rfl ?_
      · simp [results, Tryz.results7, go_sem, PgV.val, trR, s0, s1, s2, s3, s4, s5, hgz, hgz2]
      · exact rrRet_ok HB7 HOK.out _ rfl hP7
end Go.Proofs.YtmdpfikalekmlaaGreatDoor
end
section
/- Layer 20: the law of reading. -/
namespace Go.Proofs.YtmdpfikalekmlaaGreatDoor
open Go.RowKit
set_option maxRecDepth 100000
set_option maxHeartbeats 40000000
set_option linter.unusedSimpArgs false
set_option linter.unusedVariables false

theorem isaReads_env {W : World} (h : laidMetH Tryz.prog Rows.isaReadsUptoRow.laid W) : ∃ ea, IsaEnvB W ea :=
  isaB_env (l := Rows.isaReadsUptoRow.laid) h (by rfl) (by rfl) (by rfl) (by rfl)
theorem pgBox {w w' : World} {cs : Array Value} (hb : Below (w.alloc (.cells cs 28)).heap.size (w.alloc (.cells cs 28)) w') : Blk w' w.heap.size 28 cs := (Blk.new w _ _).belowW hb
theorem isaReads_walk (a0 : ByteArray) (h0 : a0.size ≤ 1048576) (w : World) (hE : ∃ ea, IsaEnvB w ea) :
    Calls Tryz.prog 3 #[.string a0] w fun e w' => e = .returned (.bool true) ∧ Below w.heap.size w w' := by
  obtain ⟨ea, hE⟩ := hE
  obtain ⟨s, rfl⟩ : ∃ s, a0 = str s := ⟨a0.data.toList, ba_ext (by rw [str_data])⟩
  rw [str_size] at h0
  have hl := h0
  have HE := Lib.hid hE
  have en3 := fun W => errI_nnil ea 15 W
  have en4 := fun W => errI_nil ea 15 W
  have eg1 := fun op x y W => errI_guard0 ea 15 op x y W
  clear hE h0
  go_enter Tryz.func3, Tryz.ntmps3
  go_wp2_with fail
  refine (lives_any _ ea HE.out.1.few HE.out.2.1 HE.out.2.2.1).mono ?_
  rintro e w1 ⟨rfl, hb1⟩
  have HB1 := Lib.hid hb1
  clear hb1
  have hls : (splitS 10 s).length ≤ 20000000 := by rw [count_split]; have := List.count_le_length (a := (10 : UInt8)) (l := s); omega
  have hrs0 := read_any s w1 ea (by omega) hls (HE.out.below HB1.out).1 (HE.out.below HB1.out).2.1 (HE.out.below HB1.out).2.2.2
  have HRR := Lib.hid (fun W => rread_any (str s) W (by rw [str_size]; exact hl))
  simp only [str_data] at HRR
  cases hrs : readP s with
  | inl q =>
    have HSQ := Lib.hid (small_read hrs hl)
    rw [hrs] at hrs0 HRR
    have HRS := Lib.hid hrs0
    clear hrs hrs0 hls
    go_wp2_with fail
    refine HRS.out.mono ?_
    rintro e w5 ⟨hb5, y, hey, hpo⟩
    have HB5 := Lib.hid (HB1.out.trans (hb5.mono HB1.out.size))
    obtain ⟨b1, b2, b3, b4, b5, b6, b7, b8, b9, b10, hy⟩ := hpo.form
    have HY := Lib.hid hpo.read
    rw [hy] at HY
    generalize y.nl = ml at *
    have hev : e = .returned (.tuple #[.agg #[.slice b1 q.avgs.length b2, .slice b3 q.curs.length b4, .slice b5 ml.length b6, .bool q.all, .slice b7 q.drive.length b8, .slice b9 q.code.length b10], .int .i64 0, .nilIface]) := by rw [hey, hy]; rfl
    clear hey
    subst hev
    have HBA := Lib.hid ((Below.refl w5.heap.size w5).alloc (Nat.le_refl _) (.cells #[.slice b1 q.avgs.length b2, .slice b3 q.curs.length b4, .slice b5 ml.length b6, .bool q.all, .slice b7 q.drive.length b8, .slice b9 q.code.length b10] 28))
    have HB6 := Lib.hid (HB5.out.trans (HBA.out.mono HB5.out.size))
    clear hb5 hpo hy
    go_wp2_with fail
    refine (HRR.out _).mono ?_
    rintro e w7 ⟨hb7, z, hez, hpz⟩
    have HX7 := Lib.hid (pgBox hb7)
    have HB7 := Lib.hid (HB6.out.trans (hb7.mono HB6.out.size))
    have HY7 := Lib.hid ((HY.out.below HBA.out).more HBA.out.size)
    have HY8 := Lib.hid ((HY7.out.below hb7).more hb7.size)
    obtain ⟨d1, d2, d3, d4, d5, d6, d7, d8, d9, d10, hz⟩ := hpz.form
    have HZ := Lib.hid hpz.read
    rw [hz] at HZ
    generalize z.nl = nl at *
    have hez2 : e = .returned (.tuple #[.agg #[.slice d1 q.avgs.length d2, .slice d3 q.curs.length d4, .slice d5 nl.length d6, .bool q.all, .slice d7 q.drive.length d8, .slice d9 q.code.length d10], .int .i64 0, .int .i64 0]) := by rw [hez, hz]; rfl
    clear hez
    subst hez2
    have HBC := Lib.hid ((Below.refl w7.heap.size w7).alloc (Nat.le_refl _) (.cells #[.slice d1 q.avgs.length d2, .slice d3 q.curs.length d4, .slice d5 nl.length d6, .bool q.all, .slice d7 q.drive.length d8, .slice d9 q.code.length d10] 28))
    have HY9 := Lib.hid ((HY8.out.below HBC.out).more HBC.out.size)
    have HZ9 := Lib.hid ((HZ.out.below HBC.out).more HBC.out.size)
    have HB9 := Lib.hid (HB7.out.trans (HBC.out.mono HB7.out.size))
    clear hb7 hpz hz
    have pz := HX7.out
    have p0 := pz.cell 0
    have p1 := pz.cell 1
    have p2 := pz.cell 2
    have p3 := pz.cell 3
    have p4 := pz.cell 4
    have p5 := pz.cell 5
    have pl := pz.lt
    simp only [List.getElem?_toArray, List.getElem?_cons_zero, List.getElem?_cons_succ] at p0 p1 p2 p3 p4 p5
    clear pz
    have hsm := same20_any ⟨.slice b1 q.avgs.length b2, .slice b3 q.curs.length b4, .slice b5 ml.length b6, .slice b7 q.drive.length b8, .slice b9 q.code.length b10, ml⟩ ⟨.slice d1 q.avgs.length d2, .slice d3 q.curs.length d4, .slice d5 nl.length d6, .slice d7 q.drive.length d8, .slice d9 q.code.length d10, nl⟩ q q (w7.alloc (.cells #[.slice d1 q.avgs.length d2, .slice d3 q.curs.length d4, .slice d5 nl.length d6, .bool q.all, .slice d7 q.drive.length d8, .slice d9 q.code.length d10] 28)) HY9.out HZ9.out HSQ.out HSQ.out
    rw [decide_eq_true rfl] at hsm
    have HSM := Lib.hid hsm
    clear hsm
    go_wp2_with fail
    refine HSM.out.mono ?_
    rintro e w10 ⟨rfl, hb10⟩
    have HB10 := Lib.hid (HB9.out.trans (hb10.mono HB9.out.size))
    clear hb10
    go_wp2_with fail
    refine (Num_nil w10).mono ?_
    rintro e w11 ⟨rfl, rfl⟩
    go_wp2
    go_ret
    exact ⟨rfl, HB10.out⟩
  | inr n =>
    rw [hrs] at hrs0 HRR
    have HRS := Lib.hid hrs0
    clear hrs hrs0 hls
    go_wp2_with fail
    refine HRS.out.mono ?_
    rintro e w5 ⟨hb5, hey⟩
    have hev : e = .returned (.tuple #[.agg #[.slice none 0 0, .slice none 0 0, .slice none 0 0, .bool false, .slice none 0 0, .slice none 0 0], .int .i64 (n : Int), errI ea 15]) := hey
    clear hey
    subst hev
    have HB5 := Lib.hid (HB1.out.trans (hb5.mono HB1.out.size))
    have HBA := Lib.hid ((Below.refl w5.heap.size w5).alloc (Nat.le_refl _) (.cells #[.slice none 0 0, .slice none 0 0, .slice none 0 0, .bool false, .slice none 0 0, .slice none 0 0] 28))
    have HB6 := Lib.hid (HB5.out.trans (HBA.out.mono HB5.out.size))
    clear hb5
    go_wp2_with fail
    refine (HRR.out _).mono ?_
    rintro e w7 ⟨hb7, hez⟩
    have HX7 := Lib.hid (pgBox hb7)
    have HB7 := Lib.hid (HB6.out.trans (hb7.mono HB6.out.size))
    have hez2 : e = .returned (.tuple #[.agg #[.slice none 0 0, .slice none 0 0, .slice none 0 0, .bool false, .slice none 0 0, .slice none 0 0], .int .i64 (n : Int), .int .i64 16]) := hez
    clear hez
    subst hez2
    have HBC := Lib.hid ((Below.refl w7.heap.size w7).alloc (Nat.le_refl _) (.cells #[.slice none 0 0, .slice none 0 0, .slice none 0 0, .bool false, .slice none 0 0, .slice none 0 0] 28))
    have HB9 := Lib.hid (HB7.out.trans (HBC.out.mono HB7.out.size))
    clear hb7
    have pz := HX7.out
    have p0 := pz.cell 0
    have p1 := pz.cell 1
    have p2 := pz.cell 2
    have p3 := pz.cell 3
    have p4 := pz.cell 4
    have p5 := pz.cell 5
    have pl := pz.lt
    simp only [List.getElem?_toArray, List.getElem?_cons_zero, List.getElem?_cons_succ] at p0 p1 p2 p3 p4 p5
    clear pz
    have hsm := same20_any pgvNone pgvNone pgNone pgNone (w7.alloc (.cells #[.slice none 0 0, .slice none 0 0, .slice none 0 0, .bool false, .slice none 0 0, .slice none 0 0] 28)) (pgr_none _ _) (pgr_none _ _) small_none small_none
    rw [decide_eq_true (rfl : pgNone = pgNone)] at hsm
    have HSM := Lib.hid hsm
    clear hsm
    go_wp2_with fail
    refine HSM.out.mono ?_
    rintro e w10 ⟨rfl, hb10⟩
    have HB10 := Lib.hid (HB9.out.trans (hb10.mono HB9.out.size))
    clear hb10
    go_wp2_with fail
    refine (Num_any ea 15 (by omega) w10 (HE.out.below HB10.out).1).mono ?_
    rintro e w11 ⟨rfl, rfl⟩
    go_wp2
    go_ret
    exact ⟨rfl, HB10.out⟩
end Go.Proofs.YtmdpfikalekmlaaGreatDoor
end
